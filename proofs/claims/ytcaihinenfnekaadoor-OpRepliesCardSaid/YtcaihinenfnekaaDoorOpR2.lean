/- interrexref14.Check. -/
import Derived.Test.YtcaihinenfnekaaDoorOpR1
import Derived.Deep.Light
namespace Go.Proofs.YtcaihinenfnekaaDoor
open Go.RowKit

def badR (o : OpV) : Bool := (decide (partsV o.k < 1) && decide (o.a ≠ ⟨#[]⟩)) || (decide (partsV o.k < 2) && decide (o.b ≠ ⟨#[]⟩)) || (decide (0 ≤ partsV o.k) && (decide (o.n ≠ 0) || decide (o.r ≠ 0)))
def bad2R (o : OpV) : Bool := decide (partsV o.k < 0) && (decide (6 < o.n) || decide (o.r < 1) || decide (3 < o.r))
def checkR (o : OpV) : Nat := if 17 ≤ o.k then 4 else if badR o = true then 4 else if bad2R o = true then 4 else if 64 < o.a.size ∨ 64 < o.b.size ∨ 64 < (textO o).length then 3 else 0
theorem toList_nil (s : ByteArray) : s.toList = [] ↔ s = ⟨#[]⟩ := by
  constructor
  · intro h; rw [← mkS_of s, ← ByteArray.toList_eq, h]; rfl
  · rintro rfl; exact mkS_toList []
theorem IntPost.mk' {w w' : World} {i j : Int} (h : i = j) (f : Fr noB w w') : IntPost w j (.returned (.int .i64 i)) w' := ⟨by rw [h], f⟩
set_option maxRecDepth 100000 in
set_option maxHeartbeats 1600000 in
theorem checkO_calls (w : World) (o : OpV) (hw : o.wf) (ha : o.a.size ≤ 1000000000000) (hb : o.b.size ≤ 1000000000000) : Calls Tryd.prog 40 #[o.v] w (IntPost w (checkR o : Nat)) := by
  have hte := fun W => textO_calls W o hw ha hb
  have HV : Hid (checkR o = if 17 ≤ o.k then 4 else if badR o = true then 4 else if bad2R o = true then 4 else if 64 < o.a.size ∨ 64 < o.b.size ∨ 64 < (textO o).length then 3 else 0) := rfl
  unfold badR bad2R at HV
  generalize textO o = tx at *
  obtain ⟨k, a, b, n, r⟩ := o
  obtain ⟨hk, hn, hr⟩ := hw
  unfold OpV.v at *
  simp only [] at *
  generalize checkR ⟨k, a, b, n, r⟩ = res at *
  have hb0 : BlkAt (w.alloc (.cells #[.int .u8 k, .string a, .string b, .int .u8 n, .int .u8 r] 69)) w.heap.size 69 #[.int .u8 k, .string a, .string b, .int .u8 n, .int .u8 r] := BlkAt.new _ _ _
  have f0 : Fr noB w (w.alloc (.cells #[.int .u8 k, .string a, .string b, .int .u8 n, .int .u8 r] 69)) := (Fr.refl noB w).alloc _
  have hts : (mkS tx).size = tx.length := mkS_size _
  obtain ⟨m, hm⟩ : ∃ m, tx.length = m := ⟨_, rfl⟩
  rw [hm] at hts HV
  have hlen : 0 ≤ m := Nat.zero_le _
  obtain ⟨c1, hc1⟩ : ∃ c, ((n : Int) != 0) = c := ⟨_, rfl⟩
  obtain ⟨c2, hc2⟩ : ∃ c, ((r : Int) != 0) = c := ⟨_, rfl⟩
  obtain ⟨c3, hc3⟩ : ∃ c, decide ((6 : Int) < n) = c := ⟨_, rfl⟩
  obtain ⟨c4, hc4⟩ : ∃ c, decide ((r : Int) < 1) = c := ⟨_, rfl⟩
  obtain ⟨c5, hc5⟩ : ∃ c, decide ((3 : Int) < r) = c := ⟨_, rfl⟩
  obtain ⟨c6, hc6⟩ : ∃ c, decide ((64 : Int) < a.size) = c := ⟨_, rfl⟩
  obtain ⟨c7, hc7⟩ : ∃ c, decide ((64 : Int) < b.size) = c := ⟨_, rfl⟩
  obtain ⟨c8, hc8⟩ : ∃ c, decide ((64 : Int) < m) = c := ⟨_, rfl⟩
  have hd1 : Hid (c1 = true ↔ n ≠ 0) := by rw [← hc1]; unfold Hid; rw [bne_iff_ne]; omega
  have hd2 : Hid (c2 = true ↔ r ≠ 0) := by rw [← hc2]; unfold Hid; rw [bne_iff_ne]; omega
  have hd3 : Hid (c3 = true ↔ 6 < n) := by rw [← hc3]; unfold Hid; rw [decide_eq_true_eq]; omega
  have hd4 : Hid (c4 = true ↔ r < 1) := by rw [← hc4]; unfold Hid; rw [decide_eq_true_eq]; omega
  have hd5 : Hid (c5 = true ↔ 3 < r) := by rw [← hc5]; unfold Hid; rw [decide_eq_true_eq]; omega
  have hd6 : Hid (c6 = true ↔ 64 < a.size) := by rw [← hc6]; unfold Hid; rw [decide_eq_true_eq]; omega
  have hd7 : Hid (c7 = true ↔ 64 < b.size) := by rw [← hc7]; unfold Hid; rw [decide_eq_true_eq]; omega
  have hd8 : Hid (c8 = true ↔ 64 < m) := by rw [← hc8]; unfold Hid; rw [decide_eq_true_eq]; omega
  have hA : Hid (a.toList = [] ↔ a = ⟨#[]⟩) := toList_nil a
  have hB : Hid (b.toList = [] ↔ b = ⟨#[]⟩) := toList_nil b
  go_enter Tryd.func40, Tryd.ntmps40
  go_wp2_with fail
  generalize (w.alloc (.cells #[.int .u8 k, .string a, .string b, .int .u8 n, .int .u8 r] 69)) = wa at *
  obtain ⟨y0, y1, y2, y3, y4, yf⟩ := BlkAt.c5 hb0
  refine (parts_calls wa k).mono ?_
  rintro e w1 ⟨rfl, rfl⟩
  by_cases h17 : k < 17
  · rw [if_neg (by omega)] at HV
    rw [decide_eq_true h17]
    have hp4 : partsV k = 2 ∨ partsV k = 1 ∨ partsV k = 0 ∨ partsV k = -1 := by
      unfold partsV partsL
      have : ∀ k : Fin 17, let P := ([2, 1, 2, 1, 1, 2, 1, 1, 2, 1, 1, 2, 2, 1, 1, 0, -1] : List Int).getD k.val 0; P = 2 ∨ P = 1 ∨ P = 0 ∨ P = -1 := by decide
      exact this ⟨k, h17⟩
    generalize partsV k = P at *
    clear h17
    rcases hp4 with rfl | rfl | rfl | rfl
    all_goals
      simp at HV
      go_wp2_with (go_at_call 43; refine (hte _).mono ?_; rintro e w2 ⟨rfl, f2⟩)
      all_goals
        go_ret
        refine IntPost.mk' ?_ (by first | exact f0 | exact f0.then' (by assumption))
        clear hte hb0 f0
        go_light
        have hv := HV.out
        have e1 := hd1.out
        have e2 := hd2.out
        have e3 := hd3.out
        have e4 := hd4.out
        have e5 := hd5.out
        have e6 := hd6.out
        have e7 := hd7.out
        have e8 := hd8.out
        have e9 := hA.out
        have e10 := hB.out
        clear HV hd1 hd2 hd3 hd4 hd5 hd6 hd7 hd8 hA hB hc1 hc2 hc3 hc4 hc5 hc6 hc7 hc8 ha hb hk hn hr hts hm hlen yf
        simp_all
        all_goals first | omega | ((repeat' split) <;> first | rfl | omega | (simp_all; done) | (simp_all; omega))
  · rw [if_pos (by omega)] at HV
    rw [decide_eq_false h17]
    generalize partsV k = P at *
    go_wp2_with fail
    go_ret
    exact IntPost.mk' (by rw [HV.out]; rfl) f0
end Go.Proofs.YtcaihinenfnekaaDoor
