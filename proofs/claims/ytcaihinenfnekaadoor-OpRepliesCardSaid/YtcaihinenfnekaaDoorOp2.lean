/- op.Same; op.Op's values; op.right, op.bare. -/
import Derived.Test.YtcaihinenfnekaaDoorOp1
import Derived.Test.YtcaihinenfnekaaDoorSameT
import Derived.Lib.OthersKept
namespace Go.Proofs.YtcaihinenfnekaaDoor
open Go.RowKit

theorem sameRep_calls (w : World) (e e' : Nat) (A B : Option Addr) (c d n n' : Nat) (l m : List ByteArray) (ha : RowAt w A (strs l)) (hb : RowAt w B (strs m)) (HN : Hid (l.length = n)) (HN' : Hid (m.length = n')) (hl : n ≤ 9223372036854775807) :
    Calls Tryd.prog 19 #[.agg #[.int .i64 e, .slice A n c], .agg #[.int .i64 e', .slice B n' d]] w (BoolPost w (decide (e = e') && (decide (e ≠ 0) || decide (l = m)))) := by
  by_cases h1 : e = e'
  · have t1 : ((e : Int) == (e' : Int)) = true := by simp [h1]
    by_cases h2 : e = 0
    · have t2 : ((e : Int) != 0) = false := by simp [h2]
      have HR : Hid ((decide (e = e') && (decide (e ≠ 0) || decide (l = m))) = decide (l = m)) := by unfold Hid; rw [decide_eq_true h1, decide_eq_false (fun h => h h2)]; rfl
      clear h1 h2
      go_enter Tryd.func19, Tryd.ntmps19
      go_wp2_with fail
      refine (equalS_calls _ A B c d n n' l m ((ha.fr0 ((Fr.refl noB w).alloc _)).fr0 ((Fr.refl noB _).alloc _)) ((hb.fr0 ((Fr.refl noB w).alloc _)).fr0 ((Fr.refl noB _).alloc _)) HN HN' hl).mono ?_
      rintro e w1 ⟨rfl, f1⟩
      go_wp2_with fail
      go_ret
      exact BoolPost.mk' HR.out.symm ((((Fr.refl noB w).alloc _).alloc _).then' f1)
    · have t2 : ((e : Int) != 0) = true := by simp [h2]
      have HR : Hid ((decide (e = e') && (decide (e ≠ 0) || decide (l = m))) = true) := by unfold Hid; rw [decide_eq_true h1, decide_eq_true h2]; rfl
      clear h1 h2
      go_enter Tryd.func19, Tryd.ntmps19
      go_wp2_with fail
      go_ret
      exact BoolPost.mk' HR.out.symm (((Fr.refl noB w).alloc _).alloc _)
  · have t1 : ((e : Int) == (e' : Int)) = false := by simp; omega
    have HR : Hid ((decide (e = e') && (decide (e ≠ 0) || decide (l = m))) = false) := by unfold Hid; rw [decide_eq_false h1]; rfl
    clear h1
    go_enter Tryd.func19, Tryd.ntmps19
    go_wp2_with fail
    go_ret
    exact BoolPost.mk' HR.out.symm (((Fr.refl noB w).alloc _).alloc _)

/-- An operation. -/
structure OpV where
  k : Nat
  a : ByteArray
  b : ByteArray
  n : Nat
  r : Nat
def OpV.v (o : OpV) : Value := .agg #[.int .u8 o.k, .string o.a, .string o.b, .int .u8 o.n, .int .u8 o.r]
def rightV (o : OpV) (c : UInt8) : Bool := if c = 110 then decide (o.n < 7) else if c = 114 then decide (1 ≤ o.r) && decide (o.r ≤ 3) else true
theorem right_calls (w : World) (o : OpV) (c : UInt8) : Calls Tryd.prog 82 #[o.v, .int .u8 c.toNat] w (BoolPost w (rightV o c)) := by
  obtain ⟨k, a, b, n, r⟩ := o
  unfold OpV.v
  by_cases h1 : c = 110
  · subst h1
    have HR : Hid (rightV ⟨k, a, b, n, r⟩ 110 = decide (n < 7)) := rfl
    go_enter Tryd.func82, Tryd.ntmps82
    go_wp2_with fail
    go_ret
    exact BoolPost.mk' (by rw [HR.out]; exact decide_eq_decide.2 (by omega)) ((Fr.refl noB w).alloc _)
  · by_cases h2 : c = 114
    · subst h2
      have HR : Hid (rightV ⟨k, a, b, n, r⟩ 114 = (decide (1 ≤ r) && decide (r ≤ 3))) := rfl
      by_cases h3 : 1 ≤ r
      · have t3 : decide (1 ≤ (r : Int)) = true := decide_eq_true (by omega)
        go_enter Tryd.func82, Tryd.ntmps82
        go_wp2_with fail
        go_ret
        refine BoolPost.mk' ?_ ((Fr.refl noB w).alloc _)
        rw [HR.out, decide_eq_true h3]; simp; omega
      · have t3 : decide (1 ≤ (r : Int)) = false := decide_eq_false (by omega)
        go_enter Tryd.func82, Tryd.ntmps82
        go_wp2_with fail
        go_ret
        refine BoolPost.mk' ?_ ((Fr.refl noB w).alloc _)
        rw [HR.out, decide_eq_false h3]; simp
    · have HR : Hid (rightV ⟨k, a, b, n, r⟩ c = true) := by unfold Hid rightV; rw [if_neg h1, if_neg h2]
      have t1 : ((c.toNat : Int) == 110) = false := by
        rw [beq_eq_false_iff_ne]; intro h; exact h1 (UInt8.toNat_inj.1 (by simpa using (by omega : c.toNat = 110)))
      have t2 : ((c.toNat : Int) == 114) = false := by
        rw [beq_eq_false_iff_ne]; intro h; exact h2 (UInt8.toNat_inj.1 (by simpa using (by omega : c.toNat = 114)))
      clear h1 h2
      go_enter Tryd.func82, Tryd.ntmps82
      go_wp2_with fail
      go_ret
      exact BoolPost.mk' HR.out.symm ((Fr.refl noB w).alloc _)
end Go.Proofs.YtcaihinenfnekaaDoor
