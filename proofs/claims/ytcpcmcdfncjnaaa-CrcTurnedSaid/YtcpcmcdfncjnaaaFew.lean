/- interrexlaw01.few, same. -/
import Derived.Test.YtcpcmcdfncjnaaaWr4
import Derived.Test.YtcpcmcdfncjnaaaSeg
namespace Go.Proofs.Ytcpcmcdfncjnaaa
open Go.RowKit

/-- An Item as it lies in memory. -/
structure Item where
  k : Nat
  x : Nat
  is : Bool
  s : ByteArray
  LA : Option Addr
  Lc : Nat
  L : List ByteArray
  most : Int
  long : Int
  e : Int
def Item.cells (i : Item) : List Value := [Value.int .u8 i.k, .int .u64 i.x, .bool i.is, .string i.s, .slice i.LA i.L.length i.Lc, .int .i64 i.most, .int .i64 i.long, .int .i64 i.e]
/-- The integers of an item are integers of their types. -/
structure Item.wf (i : Item) : Prop where
  m1 : -9223372036854775808 ≤ i.most
  m2 : i.most ≤ 9223372036854775807
  l1 : -9223372036854775808 ≤ i.long
  l2 : i.long ≤ 9223372036854775807
  e1 : -9223372036854775808 ≤ i.e
  e2 : i.e ≤ 9223372036854775807
structure ItemsAt (w : World) (A : Option Addr) (l : List Item) : Prop where
  row : RowAt w A (l.flatMap Item.cells)
  sub : ∀ i ∈ l, RowAt w i.LA (strs i.L)
theorem Item.cells_length (i : Item) : i.cells.length = 8 := rfl
def Item.ok (i : Item) : Bool := decide (i.s.size ≤ 100) && decide (i.L.length ≤ 10) && i.L.all fun s => decide (s.size ≤ 50)
def fewB (l : List Item) : Bool := l.all Item.ok && decide (l.length ≤ 30)

/-- A call that answers b, and turns nothing that was there. -/
def BoolPost (w : World) (b : Bool) (e : Ending) (w' : World) : Prop := e = .returned (.bool b) ∧ Fr noB w w'
theorem BoolPost.mk' {w w' : World} {b b' : Bool} (h : b = b') (hf : Fr noB w w') : BoolPost w b' (.returned (.bool b)) w' := ⟨by rw [h], hf⟩

set_option maxHeartbeats 1600000 in
theorem few_calls (w : World) (A : Option Addr) (cap : Nat) (l : List Item) (h : ItemsAt w A l) (hl : l.length ≤ maxLen) (hL : ∀ i ∈ l, i.L.length ≤ maxLen) :
    Calls Try.prog 15 #[.slice A l.length cap] w (BoolPost w (fewB l)) := by
  obtain ⟨n, hn⟩ : ∃ n, n = l.length := ⟨_, rfl⟩
  rw [← hn] at hl ⊢
  have HN := hid hn; clear hn
  unfold maxLen at hl
  go_enter Try.func15, Try.ntmps15
  go_wp2_with fail
  go_loopw [9] (fun i wr => ∃ k : Nat, k ≤ n ∧ i = .int .i64 k ∧ (l.take k).all Item.ok = true ∧ Fr noB w wr) (fun i _ => n - (intOf i).toNat)
  case atStart => exact ⟨0, Nat.zero_le _, rfl, by simp, Fr.refl _ _⟩
  case round =>
    obtain ⟨k, hk, rfl, ha, hf⟩ := hrel
    by_cases hkn : k < n
    · obtain ⟨it, hit⟩ : ∃ it, l[k]? = some it := ⟨_, List.getElem?_eq_getElem (by rw [← HN.out]; exact hkn)⟩
      obtain ⟨ad, rfl⟩ := h.row.some_flat (by simp [Item.cells]) hit
      obtain ⟨c0, c1, c2, c3, c4, c5, c6, c7⟩ := ((h.row.seg 8 Item.cells_length hit).fr hf id).c8
      have hmem := List.mem_of_getElem? hit
      have HT : Hid ((l.take (k + 1)).all Item.ok = it.ok) := by
        unfold Hid; rw [take_snoc' hit, List.all_append, ha]; simp
      have HF : it.ok = false → fewB l = false := fun e => by
        unfold fewB; rw [List.all_eq_false.2 ⟨it, hmem, by rw [e]; decide⟩]; rfl
      have hsub := h.sub it hmem
      have hLm := hL it hmem
      unfold maxLen at hLm
      have HB : it.s.size ≤ 100 → it.L.length ≤ 10 → it.ok = it.L.all fun s => decide (s.size ≤ 50) := fun b1 b2 => by unfold Item.ok; rw [decide_eq_true b1, decide_eq_true b2]; rfl
      have HB1 : ¬ it.s.size ≤ 100 → it.ok = false := fun b1 => by unfold Item.ok; rw [decide_eq_false b1]; simp
      have HB2 : ¬ it.L.length ≤ 10 → it.ok = false := fun b1 => by unfold Item.ok; rw [decide_eq_false b1]; simp
      generalize it.ok = ok at *
      obtain ⟨ik, ix, iis, iss, iA, ic, iL, im, ilo, ie⟩ := it
      simp only [] at *
      have HF' := hid HF
      have HB' := hid HB
      clear HF HB ha hmem hit
      by_cases b1 : iss.size ≤ 100
      · by_cases b2 : iL.length ≤ 10
        · generalize hm : iL.length = m at *
          have HM := hid hm; clear hm
          go_wp2_with fail
          go_loop [26] (fun i => ∃ j : Nat, j ≤ m ∧ i = .int .i64 j ∧ (iL.take j).all (fun s => decide (s.size ≤ 50)) = true) (fun i => m - (intOf i).toNat)
          case atStart => exact ⟨0, Nat.zero_le _, rfl, by simp⟩
          case round =>
            obtain ⟨j, hj, rfl, hja⟩ := hrel
            by_cases hjm : j < m
            · obtain ⟨s, hs⟩ : ∃ s, iL[j]? = some s := ⟨_, List.getElem?_eq_getElem (by rw [HM.out]; exact hjm)⟩
              obtain ⟨ae, rfl⟩ := hsub.some_of (by simp only [strs, List.length_map]; rw [HM.out]; omega)
              have hcx := cell_al (hf.cell (hsub.cell (j := j) (u := .string s) (by unfold strs; rw [List.getElem?_map, hs]; rfl)) id)
              have HS : Hid ((iL.take (j + 1)).all (fun s => decide (s.size ≤ 50)) = decide (s.size ≤ 50)) := by
                unfold Hid; rw [take_snoc' hs, List.all_append, hja]; simp
              have HS2 : Hid (¬ s.size ≤ 50 → iL.all (fun s => decide (s.size ≤ 50)) = false) := fun h => List.all_eq_false.2 ⟨s, List.mem_of_getElem? hs, by simpa using h⟩
              clear hja hs
              by_cases b3 : s.size ≤ 50
              · go_wp2_with fail
                go_round
                case rel => exact ⟨j + 1, by omega, by go_num, by rw [HS.out]; exact decide_eq_true b3⟩
                case measure => simp [intOf]; omega
              · go_wp2_with fail
                go_ret
                exact BoolPost.mk' (HF'.out ((HB'.out b1 (by omega)).trans (HS2.out b3))).symm (hf.alloc _)
            · have : j = m := by omega
              subst this
              have HS : Hid (ok = true) := by
                unfold Hid; rw [HB'.out b1 (by omega)]; rw [List.take_of_length_le (by rw [HM.out]; exact Nat.le_refl _)] at hja; exact hja
              clear hja
              go_wp2_with fail
              go_roundw
              case rel => exact ⟨k + 1, by omega, by go_num, by rw [HT.out]; exact HS.out, hf.alloc _⟩
              case measure => simp [intOf]; omega
        · go_wp2_with fail
          go_ret
          exact BoolPost.mk' (HF'.out (HB2 b2)).symm (hf.alloc _)
      · go_wp2_with fail
        go_ret
        exact BoolPost.mk' (HF'.out (HB1 b1)).symm (hf.alloc _)
    · have : k = n := by omega
      subst this
      have e : fewB l = decide (k ≤ 30) := by
        unfold fewB; rw [← HN.out]; rw [List.take_of_length_le (by rw [← HN.out]; exact Nat.le_refl _)] at ha; rw [ha]; rfl
      have HE := hid e
      clear ha e
      go_wp2_with fail
      go_ret
      refine BoolPost.mk' ?_ hf
      rw [HE.out]
      exact decide_eq_decide.2 (by omega)
end Go.Proofs.Ytcpcmcdfncjnaaa
