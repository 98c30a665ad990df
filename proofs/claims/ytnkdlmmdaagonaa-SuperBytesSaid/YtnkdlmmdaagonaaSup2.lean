/- super.Bytes. -/
import Derived.Test.YtnkdlmmdaagonaaSupR1
import Derived.Test.YtnkdlmmdaagonaaSeal
import Derived.Test.YtnkdlmmdaagonaaWr4
import Derived.Test.YtnkdlmmdaagonaaCalmH
namespace Go.Proofs.Ytnkdlmmdaagonaa
open Go.RowKit
theorem WrAt.madeU {w : World} {n0 : Nat} (h : w.heap.size = n0) : WrAt (w.alloc (.cells #[.slice none 0 0] 113)) (upB n0) n0 [] := by
  subst h; exact WrAt.new w
theorem WrAt.upnU {w w' : World} {n0 : Nat} {p : Nat} {bs : List UInt8} (h : WrAt w' (andNew (upB n0) w) p bs) (hs : n0 ≤ w.heap.size) : WrAt w' (upB n0) p bs :=
  h.mono fun k _ hk => hk.elim id fun q => Nat.le_trans hs q
/-- A super block's bytes ahead of the sum. -/
def bodyS (s : SuV) : List UInt8 := leB 8 s.seq ++ (leB 8 s.view ++ (leB 8 s.normal ++ (leB 8 s.gen ++ (leB 1 s.half ++ (leB 1 s.slot ++ (leB 8 s.base ++ (leB 4 s.size ++ leB 4 s.sum)))))))
theorem bodyS_length (s : SuV) : (bodyS s).length = 50 := by unfold bodyS; simp only [List.length_append, leB_length]
def superB (s : SuV) : List UInt8 := sealB (bodyS s)
theorem superB_length (s : SuV) : (superB s).length = 54 := by unfold superB; rw [sealB_length, bodyS_length]
/-- Bytes in new memory, and no error. -/
def BytesSPost (w : World) (xs : List UInt8) (e : Ending) (w' : World) : Prop := ∃ A c, e = .returned (.tuple #[.slice A xs.length c, .int .i64 0]) ∧ w'.ownsRow w.heap.size 5 1 (.slice A xs.length c) xs.length (bcells xs) ∧ Fr noB w w'
/-- What is written behind so many operations. -/
def SuWC (n0 : Nat) (ps : List (List UInt8)) : Nat → World → Prop
  | 0, W => W.heap.size = n0
  | q + 1, W => WrAt W (upB n0) n0 (ps.getD q [])
theorem own_nilU {w : World} {base n : Nat} {e : TypeId} {size : Nat} {A : Option Addr} {m c : Nat} {xs : List Value} (h : w.ownsRow base e size (.slice A m c) n xs) : A = none → m = 0 ∧ c = 0 := by
  rintro rfl
  rcases h.2 with ⟨e1, _⟩ | ⟨g, cap, cur, e1, _⟩
  · cases e1; exact ⟨rfl, rfl⟩
  · cases e1
set_option maxRecDepth 100000 in
set_option maxHeartbeats 1600000 in
theorem suBytesNo_calls (w : World) (s : SuV) (h : checkS s ≠ 0) :
    Calls Try.prog 31 #[s.v] w (fun ed w' => ed = .returned (.tuple #[.slice none 0 0, .int .i64 (checkS s : Nat)]) ∧ Fr noB w w') := by
  have f0 : Fr noB w (w.alloc (.cells s.C.toArray 61)) := (Fr.refl noB w).alloc _
  have hb0 : BlkAt (w.alloc (.cells s.C.toArray 61)) w.heap.size 61 s.C.toArray := BlkAt.new _ _ _
  have hck := checkS_calls (w.alloc (.cells s.C.toArray 61)) s
  have t1 : ((checkS s : Int) != 0) = true := by rw [bne_iff_ne]; omega
  generalize checkS s = cv at *
  obtain ⟨seq, view, normal, gen, half, slot, base, size, sum⟩ := s
  unfold SuV.C at f0 hb0 hck
  unfold SuV.v SuV.C at *
  simp only [] at *
  go_enter Try.func31, Try.ntmps31
  go_upto_region 1 with fail
  generalize (w.alloc (.cells #[.int .u64 seq, .int .u64 view, .int .u64 normal, .int .u64 gen, .int .u8 half, .int .u8 slot, .int .u64 base, .int .u32 size, .int .u32 sum] 61)) = wa at *
  obtain ⟨x0, x1, x2, x3, x4, x5, x6, x7, x8, xf⟩ := BlkAt.c9 hb0
  go_wp2_with fail
  refine hck.mono ?_
  rintro ed w1 ⟨rfl, f1⟩
  clear hck x0 x1 x2 x3 x4 x5 x6 x7 x8 xf hb0 h
  go_wp2_with fail
  go_ret2
  exact ⟨rfl, f0.then' f1⟩
end Go.Proofs.Ytnkdlmmdaagonaa
