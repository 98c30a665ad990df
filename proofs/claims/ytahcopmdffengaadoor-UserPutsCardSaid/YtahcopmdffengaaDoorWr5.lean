/- octet.Writer's Row of any length; rows that are made; bytes that are set. -/
import Derived.Test.YtahcopmdffengaaDoorLives1
import Derived.Test.YtahcopmdffengaaDoorBackLaw
import Derived.Laws.MakeOwn
namespace Go.Proofs.YtahcopmdffengaaDoor
open Go.RowKit

set_option maxRecDepth 100000 in
set_option maxHeartbeats 800000 in
theorem row_calls_big (w : World) (S : Nat → Prop) (p : Nat) (bs : List UInt8) (B : Option Addr) (n cap : Nat) (ss : List ByteArray) (h : WrAt w S p bs) (hx : RowAt w B (strs ss)) (hn : ss.length = n) (hcap : n ≤ cap) (hcm : cap ≤ 9223372036854775807) (hB : 0 < n → ∀ a, B = some a → ¬ S a.block)
    (hl : bs.length + 2 + sumSz ss ≤ 1000000000000) (h16 : 65535 < n) :
    Calls Tryd.prog 70 #[.pointer (some ⟨p, 0, none⟩), .slice B n cap] w (WrPost w S p bs (rowB ss)) := by
  obtain ⟨M, HM⟩ : ∃ M : Nat, Hid (M = 65535) := ⟨_, rfl⟩
  have HR0 : Hid (rowB ss = leB 2 M ++ (ss.take M).flatMap textB) := by unfold Hid rowB; rw [hn, Nat.min_eq_right (by omega), HM.out]
  have HN := hid hn; clear hn
  have t0 : min (n : Int) 65535 = (M : Int) := by have := HM.out; omega
  have m1 : M < 65536 := by have := HM.out; omega
  have m2 : M ≤ cap := by have := HM.out; omega
  have m3 : M < n := by have := HM.out; omega
  have m4 : 65535 ≤ cap := by omega
  go_enter Tryd.func70, Tryd.ntmps70
  go_wp2_with fail
  have hM1 : M ≤ 65535 := by have := HM.out; omega
  have hM2 : 65535 ≤ M := by have := HM.out; omega
  have hlen : Hid ((ss.take M).length = M) := by unfold Hid; rw [List.length_take, HN.out]; omega
  refine (two_calls w S p bs 65535 h (by omega) (by omega)).mono ?_
  rintro e w1 ⟨rfl, h1, h2⟩
  rw [← HM.out] at h1
  go_wp2_with fail
  go_loopw [19] (fun i wr => ∃ k : Nat, k ≤ M ∧ i = .int .i64 k ∧ WrAt wr (andNew S w) p (bs ++ leB 2 M ++ ((ss.take M).take k).flatMap textB) ∧ Fr S w wr) (fun i _ => M - (intOf i).toNat)
  case atStart => exact ⟨0, Nat.zero_le _, rfl, by rw [List.take_zero, List.flatMap_nil, List.append_nil]; exact h1, h2⟩
  case round =>
    obtain ⟨k, hk, rfl, hw, hf⟩ := hrel
    by_cases hkn : k < 65535
    · obtain ⟨s, hs⟩ : ∃ s, (ss.take M)[k]? = some s := ⟨_, List.getElem?_eq_getElem (by rw [hlen.out]; omega)⟩
      have hs0 : ss[k]? = some s := by rw [List.getElem?_take] at hs; split at hs <;> simp_all
      obtain ⟨ad, rfl⟩ := hx.some_of (by simp only [strs, List.length_map]; rw [HN.out]; omega)
      have hcx : wr.cell? (ad.add k) = some (.string s) := hf.cell (hx.cell (by rw [strs, List.getElem?_map, hs0]; rfl)) (by rw [add_block]; exact hB (by omega) ad rfl)
      have HR := hid (rows_snoc hs)
      have q1 := rows_length ((ss.take M).take k)
      have q2 := sumSz_take_le (ss.take M) (k + 1)
      have q2' := sumSz_take_le ss M
      have q3 := sumSz_take_succ hs
      have q4 : (bs ++ leB 2 M ++ ((ss.take M).take k).flatMap textB).length + 2 + s.size ≤ 1000000000000 := by
        rw [List.length_append, List.length_append, leB_length]; omega
      have q5 : s.size ≤ maxLen := by unfold maxLen; omega
      clear q1 q2 q2' q3 hs hs0
      have hki : (k : Int) < 65535 := by omega
      have Z := hid (And.intro h16 (And.intro hM1 (And.intro hM2 hkn)))
      clear h16 hM1 hM2 m1 m2 m3 m4 hkn t0
      go_wp2_with fail
      refine (text_calls wr (andNew S w) p _ s hw q5 q4).mono ?_
      rintro e w2 ⟨rfl, g1, g2⟩
      go_wp2_with fail
      go_roundw
      case rel =>
        refine ⟨k + 1, by have := Z.out; omega, by go_num, ?_, hf.then g2⟩
        rw [HR.out, ← List.append_assoc]
        exact g1.mono (fun i _ hi => hi.elim id fun q => Or.inr (by have := hf.size; omega))
      case measure => have := Z.out; simp [intOf]; omega
    · have HK : Hid (k = M) := by unfold Hid; omega
      have hki : ¬ (k : Int) < 65535 := by omega
      clear h16 hM1 hM2 m1 m2 m3 m4 hkn t0
      go_wp2_with fail
      go_ret
      refine ⟨rfl, ?_, hf⟩
      rw [HK.out, List.take_of_length_le (by rw [hlen.out]; exact Nat.le_refl _)] at hw
      rw [HR0.out, ← List.append_assoc]
      exact hw
theorem row_calls_any (w : World) (S : Nat → Prop) (p : Nat) (bs : List UInt8) (B : Option Addr) (n cap : Nat) (ss : List ByteArray) (h : WrAt w S p bs) (hx : RowAt w B (strs ss)) (hn : ss.length = n) (hcap : n ≤ cap) (hcm : cap ≤ 9223372036854775807) (hB : 0 < n → ∀ a, B = some a → ¬ S a.block)
    (hl : bs.length + 2 + sumSz ss ≤ 1000000000000) :
    Calls Tryd.prog 70 #[.pointer (some ⟨p, 0, none⟩), .slice B n cap] w (WrPost w S p bs (rowB ss)) := by
  by_cases h16 : n ≤ 65535
  · exact row_calls_small w S p bs B n cap ss h hx hn hcap hB hl h16
  · exact row_calls_big w S p bs B n cap ss h hx hn hcap hcm hB hl (by omega)

theorem madeStr (n : Nat) : (madeCells #[Value.string ⟨#[]⟩] n).toList = strs (List.replicate n ⟨#[]⟩) := by
  refine List.ext_getElem (by simp [madeCells, strs]) fun i h1 h2 => ?_
  simp [madeCells, strs, Nat.mod_one]
theorem madeU8 (n : Nat) : (madeCells #[Value.int .u8 0] n).toList = bcells (List.replicate n 0) := by
  refine List.ext_getElem (by simp [madeCells, bcells]) fun i h1 h2 => ?_
  simp [madeCells, bcells, Nat.mod_one]
/-- A block of bytes of one's own. -/
def BytesB (w : World) (b : Nat) (l : List UInt8) : Prop := w.heap[b]? = some (.cells (bcells l).toArray 5 (0, 0))
theorem BytesB.row {w : World} {b : Nat} {l : List UInt8} (h : BytesB w b l) : RowAt w (some ⟨b, 0, none⟩) (bcells l) := fun j u hu => by
  refine ⟨_, rfl, ?_⟩
  have e : (⟨b, 0, none⟩ : Addr).add j = ⟨b, j, none⟩ := by unfold Addr.add; split <;> simp_all
  rw [e, cell_of_row _ _ _ _ _ _ h]
  simpa using hu
theorem BytesB.set {w : World} {b : Nat} {l : List UInt8} (h : BytesB w b l) (k : Nat) (c : UInt8) : BytesB (w.setCell ⟨b, k, none⟩ (.int .u8 c.toNat)) b (l.set k c) := by
  unfold BytesB at *
  simp [World.setCell, Array.getElem?_modify, h, bcells, List.map_set]
theorem BytesB.free {w : World} {b : Nat} {l : List UInt8} (h : BytesB w b l) (k : Nat) : w.frozen? ⟨b, k, none⟩ = false := by
  unfold BytesB at h
  simp [World.frozen?, h]
end Go.Proofs.YtahcopmdffengaaDoor
