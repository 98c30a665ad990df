/- Contracts of octet.Writer's methods. -/
import Derived.Test.YtnkdlmmdaagonaaWr
namespace Go.Proofs.Ytnkdlmmdaagonaa
open Go.RowKit

def WrPost (w : World) (S : Nat → Prop) (p : Nat) (bs xs : List UInt8) (e : Ending) (w' : World) : Prop :=
  e = .returned (.pointer (some ⟨p, 0, none⟩)) ∧ WrAt w' (andNew S w) p (bs ++ xs) ∧ Fr S w w'

theorem byte_calls (w : World) (S : Nat → Prop) (p : Nat) (bs : List UInt8) (x : Nat) (h : WrAt w S p bs) (hx : x < 256) (hl : bs.length + 1 ≤ 1000000000000) :
    Calls Try.prog 58 #[.pointer (some ⟨p, 0, none⟩), .int .u8 x] w (WrPost w S p bs (leB 1 x)) := by
  go_enter Try.func58, Try.ntmps58
  go_wp2_with fail
  refine (num_calls w S p bs x 1 h (by omega) hl).mono ?_
  rintro e w' ⟨rfl, h1, h2⟩
  go_wp2
  go_ret
  exact ⟨rfl, h1, h2⟩
theorem four_calls (w : World) (S : Nat → Prop) (p : Nat) (bs : List UInt8) (x : Nat) (h : WrAt w S p bs) (hx : x < 4294967296) (hl : bs.length + 4 ≤ 1000000000000) :
    Calls Try.prog 59 #[.pointer (some ⟨p, 0, none⟩), .int .u32 x] w (WrPost w S p bs (leB 4 x)) := by
  go_enter Try.func59, Try.ntmps59
  go_wp2_with fail
  refine (num_calls w S p bs x 4 h (by omega) hl).mono ?_
  rintro e w' ⟨rfl, h1, h2⟩
  go_wp2
  go_ret
  exact ⟨rfl, h1, h2⟩
theorem eight_calls (w : World) (S : Nat → Prop) (p : Nat) (bs : List UInt8) (x : Nat) (h : WrAt w S p bs) (hl : bs.length + 8 ≤ 1000000000000) :
    Calls Try.prog 57 #[.pointer (some ⟨p, 0, none⟩), .int .u64 x] w (WrPost w S p bs (leB 8 x)) := by
  go_enter Try.func57, Try.ntmps57
  go_wp2_with fail
  refine (num_calls w S p bs x 8 h (by omega) hl).mono ?_
  rintro e w' ⟨rfl, h1, h2⟩
  go_wp2
  go_ret
  exact ⟨rfl, h1, h2⟩
theorem raw_calls (w : World) (S : Nat → Prop) (p : Nat) (bs : List UInt8) (B : Option Addr) (n cap : Nat) (xs : List UInt8) (h : WrAt w S p bs) (hx : RowAt w B (bcells xs)) (hn : xs.length = n) (hB : B = none → n = 0 ∧ cap = 0) (hl : bs.length + n ≤ 1000000000000) :
    Calls Try.prog 76 #[.pointer (some ⟨p, 0, none⟩), .slice B n cap] w (WrPost w S p bs xs) := by
  obtain ⟨A, m, c, T, HM, hT, hp, hown, hSp, hS, hc⟩ := h.open'
  rw [HM.out] at hl
  have HN := hid hn; clear hn
  go_enter Try.func76, Try.ntmps76
  go_wp2_with (at_builtin; refine wpList_app Try.app8 rfl (.tmp 9) (.tmp 10) rfl _ m (bcells bs) rfl hown B n cap (bcells xs) rfl (by rw [bcells_length, HN.out, Nat.mul_one]) hx (bcells_one _) hB (by omega) (by omega) ?_)
  intro A' c' w1 hown' hg hat
  obtain ⟨r1, r2, r3, r4⟩ := WrAt.stored hT HM.out HN.out (Fr.refl S w) hp hown (Or.inl hSp) (fun k hk => Or.inl (hS k hk)) (Fr.refl noB w) hown' hg (by simpa using hat)
  clear hown' hg hat hp hown hS hSp hc h hx hB
  go_wp2
  go_ret
  exact ⟨rfl, r1, r2⟩

/-- The first 65535 of a list. -/
def cut16 {α : Type} (l : List α) : List α := l.take 65535
theorem extract_take (s : ByteArray) (n : Nat) : (s.extract 0 n).data.toList = s.data.toList.take n := by
  simp
def textB (s : ByteArray) : List UInt8 := leB 2 (min s.size 65535) ++ s.data.toList.take 65535

end Go.Proofs.Ytnkdlmmdaagonaa
