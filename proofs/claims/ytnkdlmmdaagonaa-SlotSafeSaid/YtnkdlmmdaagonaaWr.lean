/- Contracts of octet.Writer. -/
import Derived.Test.YtnkdlmmdaagonaaMem
namespace Go.Proofs.Ytnkdlmmdaagonaa
open Go.RowKit

def bcells (bs : List UInt8) : List Value := bs.map fun b => Value.int .u8 b.toNat
theorem bcells_append (a b : List UInt8) : bcells (a ++ b) = bcells a ++ bcells b := by simp [bcells]
theorem bcells_length (a : List UInt8) : (bcells a).length = a.length := by simp [bcells]
theorem bcells_str (s : ByteArray) : Lib.strCells s = bcells s.data.toList := rfl
theorem bcells_one (a : List UInt8) : ∀ u ∈ bcells a, u.oneCell' = true := by
  intro u hu; simp only [bcells, List.mem_map] at hu; obtain ⟨b, _, rfl⟩ := hu; rfl

theorem Try.app8 : AppTy Try.prog 22 5 (.int .u8 0) 1 1 := ⟨Try.underlying22, by kernel_rfl, rfl, by decide⟩

/-- At p a Writer with the bytes bs, in blocks of S. -/
structure WrAt (w : World) (S : Nat → Prop) (p : Nat) (bs : List UInt8) : Prop where
  ex : ∃ A c T, T ≠ 5 ∧ w.heap[p]? = some (.cells #[.slice A bs.length c] T (0, 0)) ∧ w.ownsRow 0 5 1 (.slice A bs.length c) bs.length (bcells bs) ∧ S p ∧ ∀ k, (Value.slice A bs.length c).ownBlock = some k → S k

theorem WrAt.fr {w w' : World} {S T : Nat → Prop} {p : Nat} {bs : List UInt8} (h : WrAt w S p bs) (f : Fr T w w') (hd : ∀ k, k < w.heap.size → S k → ¬ T k) : WrAt w' S p bs := by
  obtain ⟨A, c, ty, h1, h2, h3, h4, h5⟩ := h.ex
  exact ⟨A, c, ty, h1, f.heap h2 (hd p (Array.getElem?_eq_some_iff.1 h2).1 h4), own_fr h3 f (fun g hg => hd g (own_lt h3 hg) (h5 g hg)), h4, h5⟩
theorem WrAt.mono {w : World} {S T : Nat → Prop} {p : Nat} {bs : List UInt8} (h : WrAt w S p bs) (hd : ∀ k, k < w.heap.size → S k → T k) : WrAt w T p bs := by
  obtain ⟨A, c, ty, h1, h2, h3, h4, h5⟩ := h.ex
  exact ⟨A, c, ty, h1, h2, h3, hd p (Array.getElem?_eq_some_iff.1 h2).1 h4, fun g hg => hd g (own_lt h3 hg) (h5 g hg)⟩

/-- What is left behind the append and the store. -/
theorem WrAt.stored {w wr wa w1 : World} {S : Nat → Prop} {p m d : Nat} {bs xs : List UInt8} {A A' : Option Addr} {c c' T : Nat} (hT : T ≠ 5) (hm : bs.length = m) (hd : xs.length = d)
    (hf : Fr S w wr) (hp : wr.heap[p]? = some (.cells #[.slice A m c] T (0, 0))) (hown : wr.ownsRow 0 5 1 (.slice A m c) m (bcells bs))
    (hSp : andNew S w p) (hS : ∀ k, (Value.slice A m c).ownBlock = some k → andNew S w k) (ha : Fr noB wr wa)
    (hown' : w1.ownsRow 0 5 1 (.slice A' (m + d) c') (m + d) (bcells bs ++ bcells xs)) (hg : wa.grownBy w1 (Value.slice A m c).ownBlock)
    (hat : (Value.slice A' (m + d) c').ownBlock = (Value.slice A m c).ownBlock ∨ (Value.slice A' (m + d) c').ownBlock = some wa.heap.size) :
    WrAt (w1.setCell ⟨p, 0, none⟩ (.slice A' (m + d) c')) (andNew S w) p (bs ++ xs) ∧ Fr S w (w1.setCell ⟨p, 0, none⟩ (.slice A' (m + d) c')) ∧
    w1.cell? ⟨p, 0, none⟩ = some (.slice A m c) ∧ w1.frozen? ⟨p, 0, none⟩ = false := by
  have hpa := ha.heap hp id
  have hne : (Value.slice A m c).ownBlock ≠ some p := fun e => own_ne (own_fr hown ha (fun _ _ => id)) e hpa hT.symm rfl
  have hp1 : w1.heap[p]? = some (.cells #[.slice A m c] T (0, 0)) := by
    rw [hg.block p (Array.getElem?_eq_some_iff.1 hpa).1 (fun e => hne e.symm)]; exact hpa
  have hS' : ∀ k, (Value.slice A' (m + d) c').ownBlock = some k → andNew S w k := by
    intro k hk
    rcases hat with e | e
    · exact hS k (e ▸ hk)
    · rw [hk] at e; cases e
      have := hf.size; have := ha.size; exact Or.inr (by omega)
  subst hm hd
  refine ⟨⟨A', c', T, hT, ?_, ?_, hSp, ?_⟩, ?_, cell_of_one hp1, free_of_one hp1⟩
  · rw [List.length_append]; exact one_setCell hp1
  · rw [List.length_append, bcells_append]
    exact ownsRow_setCell_other hown' (fun e => own_ne hown' e hp1 hT.symm rfl) _
  · rw [List.length_append]; exact hS'
  · refine Fr.setCell (Fr.grown (hf.trans (T := noB) ha (fun _ _ h => h.elim)) hg (fun k hk => hS k hk)) (p := ⟨p, 0, none⟩) hSp _
theorem WrAt.open' {w : World} {S : Nat → Prop} {p : Nat} {bs : List UInt8} (h : WrAt w S p bs) : ∃ A m c T, Hid (bs.length = m) ∧ T ≠ 5 ∧ w.heap[p]? = some (.cells #[.slice A m c] T (0, 0)) ∧ w.ownsRow 0 5 1 (.slice A m c) m (bcells bs) ∧ S p ∧ (∀ k, (Value.slice A m c).ownBlock = some k → S k) ∧ w.cell? ⟨p, 0, none⟩ = some (.slice A m c) := by
  obtain ⟨A, c, T, h1, h2, h3, h4, h5⟩ := h.ex
  exact ⟨A, _, c, T, rfl, h1, h2, h3, h4, h5, cell_of_one h2⟩

/-- The bytes of a number, lowest first. -/
def leB : Nat → Nat → List UInt8
  | 0, _ => []
  | n + 1, x => UInt8.ofNat x :: leB n (x / 256)
theorem leB_length (n x : Nat) : (leB n x).length = n := by induction n generalizing x <;> simp [leB, *]
theorem leB_snoc (n x : Nat) : leB (n + 1) x = leB n x ++ [UInt8.ofNat (x / 256 ^ n)] := by
  induction n generalizing x with
  | zero => simp [leB]
  | succ n ih =>
    rw [leB, ih (x / 256), leB, Nat.div_div_eq_div_mul, Nat.pow_succ, Nat.mul_comm (256 ^ n) 256]
    rfl

theorem cell_one_row (w : World) (x : Value) (t : TypeId) : RowAt (w.alloc (.cells #[x] t)) (some ⟨w.heap.size, 0, none⟩) [x] := fun j u hu => ⟨_, rfl, cell_one_new w x t j u hu⟩

theorem u8_one (n : Nat) : [Value.int .u8 ((n : Int) % 256)] = bcells [UInt8.ofNat n] := by
  simp [bcells]

set_option maxHeartbeats 800000 in
theorem num_calls (w : World) (S : Nat → Prop) (p : Nat) (bs : List UInt8) (x n : Nat) (h : WrAt w S p bs) (hn : n ≤ 8) (hl : bs.length + n ≤ 1000000000000) :
    Calls Try.prog 75 #[.pointer (some ⟨p, 0, none⟩), .int .u64 x, .int .i64 n] w fun e w' =>
      e = .returned (.pointer (some ⟨p, 0, none⟩)) ∧ WrAt w' (andNew S w) p (bs ++ leB n x) ∧ Fr S w w' := by
  go_enter Try.func75, Try.ntmps75
  go_wp2_with fail
  go_loopw [1, 8] (fun y i wr => ∃ k : Nat, k ≤ n ∧ i = .int .i64 k ∧ y = .int .u64 (x / 256 ^ k : Nat) ∧ WrAt wr (andNew S w) p (bs ++ leB k x) ∧ Fr S w wr) (fun _ i _ => n - (intOf i).toNat)
  case atStart => exact ⟨0, Nat.zero_le _, rfl, by simp, by rw [leB, List.append_nil]; exact h.mono (fun k _ hk => Or.inl hk), Fr.refl _ _⟩
  case round =>
    obtain ⟨k, hk, rfl, rfl, hw, hf⟩ := hrel
    by_cases hkn : k < n
    · have hxs : bs ++ leB (k + 1) x = (bs ++ leB k x) ++ [UInt8.ofNat (x / 256 ^ k)] := by rw [leB_snoc, List.append_assoc]
      have hll : (bs ++ leB k x).length ≤ 1000000000000 := by rw [List.length_append, leB_length]; omega
      generalize bs ++ leB k x = xs at *
      obtain ⟨y, hy⟩ : ∃ y, y = x / 256 ^ k := ⟨_, rfl⟩
      have HX := hid hxs; clear hxs
      have HY : Hid (y / 256 = x / 256 ^ (k + 1)) := by unfold Hid; rw [hy, Nat.div_div_eq_div_mul, Nat.pow_succ]
      rw [← hy] at *
      have HE := hid hy; clear hy
      obtain ⟨A, m, c, T, HM, hT, hp, hown, hSp, hS, hc⟩ := hw.open'
      have hm : m ≤ 1000000000000 := by rw [← HM.out]; exact hll
      go_wp2_with (at_builtin; refine wpList_app Try.app8 rfl (.tmp 14) (.tmp 17) rfl _ m (bcells xs) rfl (hown.alloc _) _ 1 1 [.int .u8 (y % 256 : Int)] rfl rfl (cell_one_row _ _ _) (fun u hu => by simp at hu; subst hu; rfl) (by simp) (by omega) (by omega) ?_)
      intro A' c' w1 hown' hg hat
      rw [u8_one] at hown'
      obtain ⟨r1, r2, r3, r4⟩ := WrAt.stored hT HM.out (xs := [UInt8.ofNat y]) rfl hf hp hown hSp hS ((Fr.refl noB wr).alloc _) hown' hg (by simpa using hat)
      clear hown' hg hat hp hown hS hSp hc hf hw
      go_wp2
      go_roundw
      case rel => exact ⟨k + 1, by omega, by go_num, by rw [← HY.out]; go_num, by rw [HX.out]; exact r1, r2⟩
      case measure => simp [intOf]; omega
    · have : k = n := by omega
      subst this
      go_wp2_with fail
      go_ret
      exact ⟨rfl, hw, hf⟩
end Go.Proofs.Ytnkdlmmdaagonaa
