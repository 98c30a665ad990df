/- Contracts of octet.Writer's methods. -/
import Derived.Test.YtpkdcbfhacgklaaWr
namespace Go.Proofs.Ytpkdcbfhacgklaa
open Go.RowKit

def WrPost (w : World) (S : Nat → Prop) (p : Nat) (bs xs : List UInt8) (e : Ending) (w' : World) : Prop :=
  e = .returned (.pointer (some ⟨p, 0, none⟩)) ∧ WrAt w' (andNew S w) p (bs ++ xs) ∧ Fr S w w'

theorem byte_calls (w : World) (S : Nat → Prop) (p : Nat) (bs : List UInt8) (x : Nat) (h : WrAt w S p bs) (hx : x < 256) (hl : bs.length + 1 ≤ 1000000000000) :
    Calls Try.prog 63 #[.pointer (some ⟨p, 0, none⟩), .int .u8 x] w (WrPost w S p bs (leB 1 x)) := by
  go_enter Try.func63, Try.ntmps63
  go_wp2_with fail
  refine (num_calls w S p bs x 1 h (by omega) hl).mono ?_
  rintro e w' ⟨rfl, h1, h2⟩
  go_wp2
  go_ret
  exact ⟨rfl, h1, h2⟩
theorem two_calls (w : World) (S : Nat → Prop) (p : Nat) (bs : List UInt8) (x : Nat) (h : WrAt w S p bs) (hx : x < 65536) (hl : bs.length + 2 ≤ 1000000000000) :
    Calls Try.prog 114 #[.pointer (some ⟨p, 0, none⟩), .int .u16 x] w (WrPost w S p bs (leB 2 x)) := by
  go_enter Try.func114, Try.ntmps114
  go_wp2_with fail
  refine (num_calls w S p bs x 2 h (by omega) hl).mono ?_
  rintro e w' ⟨rfl, h1, h2⟩
  go_wp2
  go_ret
  exact ⟨rfl, h1, h2⟩
theorem four_calls (w : World) (S : Nat → Prop) (p : Nat) (bs : List UInt8) (x : Nat) (h : WrAt w S p bs) (hx : x < 4294967296) (hl : bs.length + 4 ≤ 1000000000000) :
    Calls Try.prog 64 #[.pointer (some ⟨p, 0, none⟩), .int .u32 x] w (WrPost w S p bs (leB 4 x)) := by
  go_enter Try.func64, Try.ntmps64
  go_wp2_with fail
  refine (num_calls w S p bs x 4 h (by omega) hl).mono ?_
  rintro e w' ⟨rfl, h1, h2⟩
  go_wp2
  go_ret
  exact ⟨rfl, h1, h2⟩
theorem eight_calls (w : World) (S : Nat → Prop) (p : Nat) (bs : List UInt8) (x : Nat) (h : WrAt w S p bs) (hl : bs.length + 8 ≤ 1000000000000) :
    Calls Try.prog 98 #[.pointer (some ⟨p, 0, none⟩), .int .u64 x] w (WrPost w S p bs (leB 8 x)) := by
  go_enter Try.func98, Try.ntmps98
  go_wp2_with fail
  refine (num_calls w S p bs x 8 h (by omega) hl).mono ?_
  rintro e w' ⟨rfl, h1, h2⟩
  go_wp2
  go_ret
  exact ⟨rfl, h1, h2⟩
theorem raw_calls (w : World) (S : Nat → Prop) (p : Nat) (bs : List UInt8) (B : Option Addr) (n cap : Nat) (xs : List UInt8) (h : WrAt w S p bs) (hx : RowAt w B (bcells xs)) (hn : xs.length = n) (hB : B = none → n = 0 ∧ cap = 0) (hl : bs.length + n ≤ 1000000000000) :
    Calls Try.prog 65 #[.pointer (some ⟨p, 0, none⟩), .slice B n cap] w (WrPost w S p bs xs) := by
  obtain ⟨A, m, c, T, HM, hT, hp, hown, hSp, hS, hc⟩ := h.open'
  rw [HM.out] at hl
  have HN := hid hn; clear hn
  go_enter Try.func65, Try.ntmps65
  go_wp2_with (at_builtin; refine wpList_app Try.app8 rfl (.tmp 9) (.tmp 10) rfl _ m (bcells bs) rfl hown B n cap (bcells xs) rfl (by rw [bcells_length, HN.out, Nat.mul_one]) hx (bcells_one _) hB (by omega) (by omega) ?_)
  intro A' c' w1 hown' hg hat
  obtain ⟨r1, r2, r3, r4⟩ := WrAt.stored hT HM.out HN.out (Fr.refl S w) hp hown (Or.inl hSp) (fun k hk => Or.inl (hS k hk)) (Fr.refl noB w) hown' hg (by simpa using hat)
  clear hown' hg hat hp hown hS hSp hc h hx hB
  go_wp2
  go_ret
  exact ⟨rfl, r1, r2⟩

/-- The first 65535 of a list. -/
def cut16 {α : Type} (l : List α) : List α := l.take 65535
theorem extract_take (s : ByteArray) (n : Nat) : (s.extract 0 n).data.toList = s.data.toList.take n := by
  simp
def textB (s : ByteArray) : List UInt8 := leB 2 (min s.size 65535) ++ s.data.toList.take 65535

theorem text_calls (w : World) (S : Nat → Prop) (p : Nat) (bs : List UInt8) (s : ByteArray) (h : WrAt w S p bs) (hs : s.size ≤ maxLen) (hl : bs.length + 2 + s.size ≤ 1000000000000) :
    Calls Try.prog 99 #[.pointer (some ⟨p, 0, none⟩), .string s] w (WrPost w S p bs (textB s)) := by
  by_cases hz : s.size ≤ 65535
  · have HT : Hid (bs ++ textB s = bs ++ leB 2 s.size ++ s.data.toList) := by
      unfold Hid textB
      rw [Nat.min_eq_left hz, List.take_of_length_le (by simpa using hz), List.append_assoc]
    go_enter Try.func99, Try.ntmps99
    go_wp2_with fail
    refine (two_calls w S p bs s.size h (by omega) (by omega)).mono ?_
    rintro e w' ⟨rfl, h1, h2⟩
    obtain ⟨A, m, c, T, HM, hT, hp, hown, hSp, hS, hc⟩ := h1.open'
    have hm : m ≤ 1000000000000 - s.size := by have := HM.out; rw [List.length_append, leB_length] at this; omega
    go_wp2_with (at_builtin; refine wpList_app_str Try.app8 Try.underlying9 rfl (.tmp 19) (.tmp 20) rfl _ m _ rfl hown s rfl (by omega) ?_)
    intro A' c' w1 hown' hg hat
    obtain ⟨r1, r2, r3, r4⟩ := WrAt.stored hT HM.out (xs := s.data.toList) (d := (s).size) rfl h2 hp hown hSp hS (Fr.refl noB w') hown' hg (by simpa using hat)
    clear hown' hg hat hp hown hS hSp hc h1 h2 h
    go_wp2
    go_ret
    exact ⟨rfl, by rw [HT.out]; exact r1, r2⟩
  · have hz' : 65535 < s.size := by omega
    have HT : Hid (bs ++ textB s = bs ++ leB 2 (min 65535 s.size) ++ (s.extract 0 65535).data.toList) := by
      unfold Hid textB
      rw [Nat.min_comm, extract_take, List.append_assoc]
    have hes : (s.extract 0 65535).size ≤ s.size := by rw [ByteArray.size_extract]; omega
    go_enter Try.func99, Try.ntmps99
    go_wp2_with fail
    refine (two_calls w S p bs (min 65535 s.size) h (by omega) (by omega)).mono ?_
    rintro e w' ⟨rfl, h1, h2⟩
    dsimp only
    generalize s.extract 0 65535 = s' at *
    generalize min 65535 s.size = k at *
    obtain ⟨A, m, c, T, HM, hT, hp, hown, hSp, hS, hc⟩ := h1.open'
    have hm : m ≤ 1000000000000 - s.size := by have := HM.out; rw [List.length_append, leB_length] at this; omega
    go_wp2_with (at_builtin; refine wpList_app_str Try.app8 Try.underlying9 rfl (.tmp 19) (.tmp 20) rfl _ m _ rfl hown s' rfl (by omega) ?_)
    intro A' c' w1 hown' hg hat
    obtain ⟨r1, r2, r3, r4⟩ := WrAt.stored hT HM.out (xs := s'.data.toList) (d := s'.size) rfl h2 hp hown hSp hS (Fr.refl noB w') hown' hg (by simpa using hat)
    clear hown' hg hat hp hown hS hSp hc h1 h2 h
    go_wp2
    go_ret
    exact ⟨rfl, by rw [HT.out]; exact r1, r2⟩
end Go.Proofs.Ytpkdcbfhacgklaa
