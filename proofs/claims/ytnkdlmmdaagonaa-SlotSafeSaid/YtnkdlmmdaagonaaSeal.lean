/- crc.Table's Seal, interrexref02's Seal. -/
import Derived.Test.YtnkdlmmdaagonaaCrcRef
import Derived.Test.YtnkdlmmdaagonaaLives1
import Derived.Test.YtnkdlmmdaagonaaRef1
namespace Go.Proofs.Ytnkdlmmdaagonaa
open Go.RowKit

theorem WrAt.newQ (w : World) : WrAt (w.alloc (.cells #[.slice none 0 0] 113)) (eqB w.heap.size) w.heap.size [] :=
  ⟨none, 0, _, by decide, heap_alloc_new w _, World.ownsRow_nil _ _ _ _, rfl, fun k h => by simp [Value.ownBlock] at h⟩
def sealB (b : List UInt8) : List UInt8 := b ++ leB 4 (crcSum b)
theorem sealB_length (b : List UInt8) : (sealB b).length = b.length + 4 := by unfold sealB; rw [List.length_append, leB_length]
theorem crcSum_lt (b : List UInt8) : crcSum b < 4294967296 := not32_lt _
def SealPost (w : World) (p : Nat) (xs : List UInt8) (e : Ending) (w' : World) : Prop :=
  ∃ A c, e = .returned (.slice A xs.length c) ∧ w'.ownsRow w.heap.size 5 1 (.slice A xs.length c) xs.length (bcells xs) ∧ TabAt w' p true ∧ Fr (eqB p) w w'
set_option maxRecDepth 100000 in
set_option maxHeartbeats 1600000 in
theorem seal_calls (w : World) (p : Nat) (m : Bool) (A : Option Addr) (n c : Nat) (b : List UInt8) (h : TabAt w p m) (hr : RowAt w A (bcells b)) (HN : Hid (b.length = n)) (hn : n ≤ 100000000000) (hnil : A = none → n = 0 ∧ c = 0) (hA : ∀ a, A = some a → 0 < n → a.block ≠ p) :
    Calls Try.prog 60 #[.pointer (some ⟨p, 0, none⟩), .slice A n c] w (SealPost w p (sealB b)) := by
  have hlt : ∀ a, A = some a → 0 < n → a.block < w.heap.size := fun a e h0 => by
    subst e; exact hr.lt (by rw [bcells_length, HN.out]; exact h0)
  have hw0 := WrAt.newQ w
  have f0 : Fr noB w (w.alloc (.cells #[.slice none 0 0] 113)) := (Fr.refl noB w).alloc _
  have z0 : (w.alloc (.cells #[.slice none 0 0] 113)).heap.size = w.heap.size + 1 := by simp
  have hp := h.lt
  have hraw := raw_calls _ _ w.heap.size [] A n c b hw0 (hr.fr0 f0) HN.out hnil (by simp; omega)
  have h0 := h.fr f0 id
  have hr0 := hr.fr0 f0
  have HSB : Hid ((sealB b).length = n + 4) := by unfold Hid; rw [sealB_length, HN.out]
  clear hw0 h hr
  go_enter Try.func60, Try.ntmps60
  go_wp2_with fail
  generalize w.alloc (.cells #[.slice none 0 0] 113) = w0 at *
  generalize hq : w.heap.size = q at *
  have HQ := hid hq; clear hq
  refine hraw.mono ?_
  clear hraw
  rintro e w1 ⟨rfl, h1, f1⟩
  have ht1 := h0.fr f1 (fun he => by unfold eqB at he; omega)
  have hr1 := hr0.fr f1 (fun a e h0 _ he => by have := hlt a e (by rw [bcells_length, HN.out] at h0; exact h0); unfold eqB at he; omega)
  have f01 : Fr (fun k => k = p ∨ q ≤ k) w w1 := (f0.mono fun _ _ h => h.elim).then' (f1.mono fun k _ he => Or.inr (by unfold eqB at he; omega))
  have z1 := f1.size
  have hsm := sumT_calls w1 p m A n c b ht1 hr1 HN (by omega) hA
  clear f0 f1 h0 hr0 ht1 hr1
  go_wp2_with fail
  refine hsm.mono ?_
  clear hsm
  rintro e w2 ⟨rfl, ht2, f2⟩
  have h2 := h1.fr f2 (fun k _ h1 h2 => by unfold eqB at h2; rcases h1 with h1 | h1 <;> (try unfold eqB at h1) <;> omega)
  have f02 := f01.then' (f2.mono (T := fun k => k = p ∨ q ≤ k) fun k _ he => Or.inl he)
  have z2 := f2.size
  have hfr := four_calls w2 _ q _ (crcSum b) h2 (crcSum_lt b) (by simp [HN.out]; omega)
  rw [List.nil_append] at hfr
  have HSM : Hid (sealB b = b ++ leB 4 (crcSum b)) := rfl
  clear h1 h2 f01 f2
  generalize crcSum b = sm at *
  go_wp2_with fail
  refine hfr.mono ?_
  clear hfr
  rintro e w3 ⟨rfl, h3, f3⟩
  rw [← HSM.out] at h3
  have ht3 := ht2.fr f3 (fun he => by rcases he with he | he <;> (try unfold eqB at he) <;> omega)
  have f03 := f02.then' (f3.mono (T := fun k => k = p ∨ q ≤ k) fun k _ he => Or.inr (by rcases he with he | he <;> (try unfold eqB at he) <;> omega))
  have z3 := f3.size
  have hby := bytes_calls w3 _ q (sealB b) h3 (by rw [HSB.out]; omega)
  clear ht2 f02 f3 h3
  go_wp2_with fail
  refine hby.mono ?_
  clear hby
  rintro e w4 ⟨B, d, rfl, h4, f4⟩
  have HF : Hid (Fr (eqB p) w w4) := ((f03.then' (f4.mono fun _ _ h => h.elim)).mono (T := eqB p) fun k hk he => he.elim id fun h => by have := HQ.out; omega)
  have HT := hid (ht3.fr f4 id)
  have HO := hid (own_mono (b' := q) h4 (fun g hg => by have := (h4.lt g hg).1; omega))
  clear h4 f4 f03 ht3
  generalize hsl : (sealB b).length = sl at *
  have HSL := hid hsl; clear hsl
  go_wp2_with fail
  go_ret
  exact ⟨B, d, by rw [HSL.out]; rfl, by rw [HSL.out, HQ.out]; exact HO.out, HT.out, HF.out⟩
theorem sealR_calls (w : World) (s : ByteArray) (hs : s.size ≤ 100000000000) :
    Calls Try.prog 68 #[.string s] w (StrPost w (sealB s.data.toList)) := by
  have hsm := fun W => sumR_calls W s (by omega)
  have hlt := crcSum_lt s.data.toList
  have HE : Hid (mkS (sealB s.data.toList) = s ++ mkS (leB 4 (crcSum s.data.toList))) := by
    unfold Hid sealB; rw [← mkS_append, mkS_of]
  have hq : s.size + (mkS (leB 4 (crcSum s.data.toList))).size ≤ 9223372036854775807 := by rw [mkS_size, leB_length]; omega
  have hnm : ∀ W, Calls Try.prog 67 #[.int .u64 (crcSum s.data.toList : Nat), .int .i64 4] W (fun e w' => e = .returned (.string (mkS (leB 4 (crcSum s.data.toList)))) ∧ Fr noB W w') := fun W => numR_calls W (crcSum s.data.toList) 4 (by omega) (by omega)
  generalize crcSum s.data.toList = sm at *
  generalize mkS (leB 4 sm) = t at *
  go_enter Try.func68, Try.ntmps68
  go_wp2_with fail
  refine (hsm _).mono ?_
  rintro e w1 ⟨rfl, f1⟩
  go_wp2_with fail
  refine (hnm _).mono ?_
  rintro e w2 ⟨rfl, f2⟩
  go_wp2_with fail
  go_ret
  exact ⟨by rw [HE.out]; rfl, f1.then' f2⟩
end Go.Proofs.Ytnkdlmmdaagonaa
