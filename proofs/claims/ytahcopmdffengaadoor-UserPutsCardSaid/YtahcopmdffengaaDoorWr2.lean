/- Contracts of octet.Writer's methods. -/
import Derived.Test.YtahcopmdffengaaDoorWr
namespace Go.Proofs.YtahcopmdffengaaDoor
open Go.RowKit

def WrPost (w : World) (S : Nat → Prop) (p : Nat) (bs xs : List UInt8) (e : Ending) (w' : World) : Prop :=
  e = .returned (.pointer (some ⟨p, 0, none⟩)) ∧ WrAt w' (andNew S w) p (bs ++ xs) ∧ Fr S w w'

theorem byte_calls (w : World) (S : Nat → Prop) (p : Nat) (bs : List UInt8) (x : Nat) (h : WrAt w S p bs) (hx : x < 256) (hl : bs.length + 1 ≤ 1000000000000) :
    Calls Tryd.prog 84 #[.pointer (some ⟨p, 0, none⟩), .int .u8 x] w (WrPost w S p bs (leB 1 x)) := by
  go_enter Tryd.func84, Tryd.ntmps84
  go_wp2_with fail
  refine (num_calls w S p bs x 1 h (by omega) hl).mono ?_
  rintro e w' ⟨rfl, h1, h2⟩
  go_wp2
  go_ret
  exact ⟨rfl, h1, h2⟩
theorem two_calls (w : World) (S : Nat → Prop) (p : Nat) (bs : List UInt8) (x : Nat) (h : WrAt w S p bs) (hx : x < 65536) (hl : bs.length + 2 ≤ 1000000000000) :
    Calls Tryd.prog 83 #[.pointer (some ⟨p, 0, none⟩), .int .u16 x] w (WrPost w S p bs (leB 2 x)) := by
  go_enter Tryd.func83, Tryd.ntmps83
  go_wp2_with fail
  refine (num_calls w S p bs x 2 h (by omega) hl).mono ?_
  rintro e w' ⟨rfl, h1, h2⟩
  go_wp2
  go_ret
  exact ⟨rfl, h1, h2⟩
theorem truth_calls (w : World) (S : Nat → Prop) (p : Nat) (bs : List UInt8) (b : Bool) (h : WrAt w S p bs) (hl : bs.length + 1 ≤ 1000000000000) :
    Calls Tryd.prog 69 #[.pointer (some ⟨p, 0, none⟩), .bool b] w (WrPost w S p bs (leB 1 (if b then 1 else 0))) := by
  cases b
  · go_enter Tryd.func69, Tryd.ntmps69
    go_wp2_with fail
    refine (byte_calls w S p bs 0 h (by omega) hl).mono ?_
    rintro e w' ⟨rfl, h1, h2⟩
    go_wp2
    go_ret
    exact ⟨rfl, h1, h2⟩
  · go_enter Tryd.func69, Tryd.ntmps69
    go_wp2_with fail
    refine (byte_calls w S p bs 1 h (by omega) hl).mono ?_
    rintro e w' ⟨rfl, h1, h2⟩
    go_wp2
    go_ret
    exact ⟨rfl, h1, h2⟩
/-- The first 65535 of a list. -/
def cut16 {α : Type} (l : List α) : List α := l.take 65535
theorem extract_take (s : ByteArray) (n : Nat) : (s.extract 0 n).data.toList = s.data.toList.take n := by
  simp
def textB (s : ByteArray) : List UInt8 := leB 2 (min s.size 65535) ++ s.data.toList.take 65535

set_option maxRecDepth 100000 in
theorem text_calls (w : World) (S : Nat → Prop) (p : Nat) (bs : List UInt8) (s : ByteArray) (h : WrAt w S p bs) (hs : s.size ≤ maxLen) (hl : bs.length + 2 + s.size ≤ 1000000000000) :
    Calls Tryd.prog 68 #[.pointer (some ⟨p, 0, none⟩), .string s] w (WrPost w S p bs (textB s)) := by
  by_cases hz : s.size ≤ 65535
  · have HT : Hid (bs ++ textB s = bs ++ leB 2 s.size ++ s.data.toList) := by
      unfold Hid textB
      rw [Nat.min_eq_left hz, List.take_of_length_le (by simpa using hz), List.append_assoc]
    go_enter Tryd.func68, Tryd.ntmps68
    go_wp2_with fail
    refine (two_calls w S p bs s.size h (by omega) (by omega)).mono ?_
    rintro e w' ⟨rfl, h1, h2⟩
    obtain ⟨A, m, c, T, HM, hT, hp, hown, hSp, hS, hc⟩ := h1.open'
    have hm : m ≤ 1000000000000 - s.size := by have := HM.out; rw [List.length_append, leB_length] at this; omega
    go_wp2_with (at_builtin; refine wpList_app_str Tryd.app8 Tryd.underlying9 rfl (.tmp 19) (.tmp 20) rfl _ m _ rfl hown s rfl (by omega) ?_)
    intro A' c' w1 hown' hg hat
    obtain ⟨r1, r2, r3, r4⟩ := WrAt.stored hT HM.out (xs := s.data.toList) (d := (s).size) rfl h2 hp hown hSp hS (Fr.refl noB w') hown' hg (by simpa using hat)
    clear hown' hg hat hp hown hS hSp hc h1 h2 h
    go_wp2
    go_ret
    exact ⟨rfl, by rw [HT.out]; exact r1, r2⟩
  · have hz' : 65535 < s.size := by omega
    have HT : Hid (bs ++ textB s = bs ++ leB 2 (min 65535 s.size) ++ (s.extract 0 65535).data.toList) := by
      unfold Hid textB
      rw [Nat.min_comm, extract_take, List.append_assoc]
    have hes : (s.extract 0 65535).size ≤ s.size := by rw [ByteArray.size_extract]; omega
    go_enter Tryd.func68, Tryd.ntmps68
    go_wp2_with fail
    refine (two_calls w S p bs (min 65535 s.size) h (by omega) (by omega)).mono ?_
    rintro e w' ⟨rfl, h1, h2⟩
    dsimp only
    generalize s.extract 0 65535 = s' at *
    generalize min 65535 s.size = k at *
    obtain ⟨A, m, c, T, HM, hT, hp, hown, hSp, hS, hc⟩ := h1.open'
    have hm : m ≤ 1000000000000 - s.size := by have := HM.out; rw [List.length_append, leB_length] at this; omega
    go_wp2_with (at_builtin; refine wpList_app_str Tryd.app8 Tryd.underlying9 rfl (.tmp 19) (.tmp 20) rfl _ m _ rfl hown s' rfl (by omega) ?_)
    intro A' c' w1 hown' hg hat
    obtain ⟨r1, r2, r3, r4⟩ := WrAt.stored hT HM.out (xs := s'.data.toList) (d := s'.size) rfl h2 hp hown hSp hS (Fr.refl noB w') hown' hg (by simpa using hat)
    clear hown' hg hat hp hown hS hSp hc h1 h2 h
    go_wp2
    go_ret
    exact ⟨rfl, by rw [HT.out]; exact r1, r2⟩
end Go.Proofs.YtahcopmdffengaaDoor
