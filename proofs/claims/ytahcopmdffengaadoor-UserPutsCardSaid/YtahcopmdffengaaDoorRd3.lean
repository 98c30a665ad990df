/- octet.Of, and a Reader's Row. -/
import Derived.Test.YtahcopmdffengaaDoorRd2
namespace Go.Proofs.YtahcopmdffengaaDoor
open Go.RowKit

theorem Tryd.appS : AppTy Tryd.prog 33 9 (.string ⟨#[]⟩) 1 16 := ⟨Tryd.underlying33, by kernel_rfl, rfl, by decide⟩
def rTexts (r : Rd) (long : Int) : Nat → Rd × List ByteArray
  | 0 => (r, [])
  | n + 1 => ((rText (rTexts r long n).1 long).1, (rTexts r long n).2 ++ [mkS (rText (rTexts r long n).1 long).2])
theorem rTexts_len (r : Rd) (long : Int) (n : Nat) : (rTexts r long n).2.length = n := by induction n <;> simp [rTexts, *]
def rRow (r : Rd) (most long : Int) : Rd × List ByteArray :=
  ((rTexts (rCount r most).1 long (rCount r most).2).1, if (rTexts (rCount r most).1 long (rCount r most).2).1.e = 0 then (rTexts (rCount r most).1 long (rCount r most).2).2 else [])

def OfPost (w : World) (bs : List UInt8) (e : Ending) (w' : World) : Prop := ∃ p, e = .returned (.pointer (some ⟨p, 0, none⟩)) ∧ w.heap.size ≤ p ∧ p < w'.heap.size ∧ RdAt w' (upB w.heap.size) p ⟨bs, 0⟩ ∧ Fr noB w w'
theorem of_calls (w : World) (B : Option Addr) (n cap : Nat) (xs : List UInt8) (hx : RowAt w B (bcells xs)) (hn : xs.length = n) (hB : B = none → n = 0 ∧ cap = 0) (hl : n ≤ 1000000000000) :
    Calls Tryd.prog 31 #[.slice B n cap] w (OfPost w xs) := by
  have HL := hid hl; clear hl
  have HN := hid hn; clear hn
  go_enter Tryd.func31, Tryd.ntmps31
  go_wp2_with fail
  refine (clone_calls w B n cap xs hx HN.out hB HL.out).mono ?_
  rintro e w1 ⟨A, c, rfl, h1, f1, hA⟩
  go_wp2_with fail
  go_ret
  have hz := f1.size
  refine ⟨w1.heap.size, rfl, hz, by simp, ⟨A, n, c, _, HN.out, heap_alloc_new w1 _, (own_row h1).fr0 ((Fr.refl noB _).alloc _), ?_, ?_, fun e => ?_, hz, fun h0 a e => ?_, fun h => absurd rfl h⟩, f1.alloc _⟩
  · rcases h1.2 with ⟨e, e2⟩ | ⟨g, cp, cur, e, _, _, h2, _⟩
    · omega
    · cases e; exact h2
  · rcases h1.2 with ⟨e, e2⟩ | ⟨g, cp, cur, e, _, _, _, h2, _⟩
    · cases e; omega
    · cases e; unfold maxLen at h2; omega
  · subst e
    rcases h1.2 with ⟨e, e2⟩ | ⟨g, cp, cur, e, _⟩
    · cases e; exact ⟨rfl, rfl⟩
    · cases e
  · subst e
    have := h1.lt a.block rfl
    exact ⟨this.1, by omega⟩

def RowPost (w : World) (S : Nat → Prop) (p : Nat) (r : Rd) (ss : List ByteArray) (e : Ending) (w' : World) : Prop :=
  ∃ A n c, e = .returned (.slice A n c) ∧ Hid (ss.length = n) ∧ w'.ownsRow w.heap.size 9 1 (.slice A n c) n (strs ss) ∧ RdAt w' S p r ∧ Fr S w w'
set_option maxRecDepth 100000 in
set_option maxHeartbeats 1600000 in
theorem rowRd_calls (w : World) (S : Nat → Prop) (p : Nat) (r : Rd) (most long : Int) (h : RdAt w S p r) (hS : ∀ k, S k → k < w.heap.size) (hm1 : -9223372036854775808 ≤ most) (hm2 : most ≤ 9223372036854775807) (hl1 : -9223372036854775808 ≤ long) (hl2 : long ≤ 9223372036854775807) :
    Calls Tryd.prog 63 #[.pointer (some ⟨p, 0, none⟩), .int .i64 most, .int .i64 long] w (RowPost w S p (rRow r most long).1 (rRow r most long).2) := by
  have hc := countRd_calls w S p r most h hm1 hm2
  have hx : (rCount r most).2 < 65536 := by
    have := rNum_lt r 2
    unfold rCount
    split
    · exact Nat.zero_lt_succ _
    · exact this
  have HF : Hid (rRow r most long = ((rTexts (rCount r most).1 long (rCount r most).2).1, if (rTexts (rCount r most).1 long (rCount r most).2).1.e = 0 then (rTexts (rCount r most).1 long (rCount r most).2).2 else [])) := rfl
  generalize (rCount r most).1 = r1 at *
  generalize (rCount r most).2 = x at *
  go_enter Tryd.func63, Tryd.ntmps63
  go_wp2_with fail
  refine hc.mono ?_
  rintro e w1 ⟨rfl, h1, f1⟩
  clear hc
  have hw1 := f1.size
  go_wp2_with fail
  go_loopw [7, 11] (fun v i wr => ∃ k : Nat, k ≤ x ∧ i = .int .i64 k ∧ (∃ A c, v = .slice A k c ∧ wr.ownsRow w.heap.size 9 1 v k (strs (rTexts r1 long k).2)) ∧ RdAt wr S p (rTexts r1 long k).1 ∧ Fr S w wr) (fun _ i _ => x - (intOf i).toNat)
  case atStart => exact ⟨0, Nat.zero_le _, rfl, ⟨none, 0, rfl, World.ownsRow_nil _ _ _ _⟩, h1, f1⟩
  case round =>
    obtain ⟨k, hk, rfl, ⟨A, c, rfl, hown⟩, hr, hf⟩ := hrel
    by_cases hkx : k < x
    · have HS : Hid (rTexts r1 long (k + 1) = ((rText (rTexts r1 long k).1 long).1, (rTexts r1 long k).2 ++ [mkS (rText (rTexts r1 long k).1 long).2])) := rfl
      have hct := textRd_calls wr S p (rTexts r1 long k).1 long hr hl1 hl2
      generalize rTexts r1 long k = rk at *
      go_wp2_with fail
      refine hct.mono ?_
      rintro e w2 ⟨rfl, h2, f2⟩
      clear hct
      have hown2 : w2.ownsRow 0 9 1 (.slice A k c) k (strs rk.2) := own_mono (own_fr hown f2 (fun g hg hs => by have := (hown.lt g hg).1; have := hS g hs; omega)) (fun _ _ => Nat.zero_le _)
      have hbase : ∀ g, (Value.slice A k c).ownBlock = some g → w.heap.size ≤ g := fun g hg => (hown.lt g hg).1
      have hz2 : w.heap.size ≤ w2.heap.size := Nat.le_trans hf.size f2.size
      generalize mkS (rText rk.1 long).2 = t at *
      go_wp2_with (at_builtin; refine wpList_app Tryd.appS rfl (.tmp 13) (.tmp 17) rfl _ k (strs rk.2) rfl (hown2.alloc _) _ 1 1 [.string t] rfl rfl (cell_one_row _ _ _) (fun u hu => by simp at hu; subst hu; rfl) (by simp) (by omega) (by omega) ?_)
      intro A' c' w3 hown3 hg hat
      have f3 : Fr S w w3 := Fr.grown ((hf.then' f2).alloc _) hg (fun g hg => Or.inr (hbase g hg))
      have h3 : RdAt w3 S p (rText rk.1 long).1 := (h2.fr ((Fr.refl noB _).alloc _) (fun _ _ _ => id)).fr (Fr.grown (Fr.refl (fun k => w.heap.size ≤ k) _) hg (fun g hg => Or.inl (hbase g hg))) (fun g _ h1 h2 => by have := hS g h1; omega)
      have hown4 : w3.ownsRow w.heap.size 9 1 (.slice A' (k + 1) c') (k + 1) (strs (rk.2 ++ [t])) := by
        have : strs (rk.2 ++ [t]) = strs rk.2 ++ [.string t] := by simp [strs]
        rw [this]
        refine own_mono hown3 (fun g hg => ?_)
        rcases hat with e | e
        · exact hbase g (e ▸ hg)
        · rw [hg] at e; simp at e; omega
      clear hg hat hown3 hown2 hown hf f2 h2 hr
      go_wp2_with fail
      go_roundw
      case rel => exact ⟨k + 1, by omega, by go_num, ⟨A', c', rfl, by rw [HS.out]; exact hown4⟩, by rw [HS.out]; exact h3, f3⟩
      case measure => simp [intOf]; omega
    · have : k = x := by omega
      subst this
      have HR := hid hr
      have hlen := rTexts_len r1 long k
      generalize rTexts r1 long k = rk at *
      have HL := hid hlen; clear hlen
      obtain ⟨B, n, cp, T, hv⟩ := hr
      obtain ⟨c0, c1, z0, z1⟩ := hv.cells
      by_cases e0 : rk.1.e = 0
      · have t0 : ((rk.1.e : Int) != 0) = false := by simp; exact e0
        rw [if_pos e0] at HF
        have E0 := hid e0; clear e0
        go_wp2_with fail
        go_ret
        rw [HF.out]
        exact ⟨A, k, c, rfl, HL.out, hown, HR.out, hf⟩
      · have t0 : ((rk.1.e : Int) != 0) = true := by simp; exact e0
        rw [if_neg e0] at HF
        have E0 := hid e0; clear e0
        go_wp2_with fail
        go_ret
        rw [HF.out]
        exact ⟨none, 0, 0, rfl, rfl, World.ownsRow_nil _ _ _ _, HR.out, hf⟩
end Go.Proofs.YtahcopmdffengaaDoor
