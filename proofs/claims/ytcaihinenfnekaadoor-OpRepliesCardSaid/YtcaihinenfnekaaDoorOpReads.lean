/- interrexlaw14.OpReads: the walk. -/
import Derived.Test.YtcaihinenfnekaaDoorOpLaw
namespace Go.Proofs.YtcaihinenfnekaaDoor
open Go.RowKit

open Classical in
theorem opNeqR (w : World) (o : OpV) : (binOp .neq 69 (.agg #[.int .u8 o.k, .string o.a, .string o.b, .int .u8 o.n, .int .u8 o.r]) (.agg #[.int .u8 o.k, .string o.a, .string o.b, .int .u8 o.n, .int .u8 o.r])).run Tryd.prog w = .ok (.bool false) w := by
  have h1 : Tryd.prog.stoodInHeld 69 = false := by kernel_rfl
  have h2 : Tryd.prog.underlying 69 = some (.struct (Tryd.prog.fieldsOf 69)) := by kernel_rfl
  rw [run_neq_struct, run_equalIn_struct w 9999 _ _ _ h2 h1]
  simp only [Program.fieldsOf, Tryd.underlying69]
  simp [go_sem]
theorem opEqR (w : World) (o : OpV) : (binOp .eql 38 (.agg #[.int .u8 o.k, .string o.a, .string o.b, .int .u8 o.n, .int .u8 o.r]) (.agg #[.int .u8 o.k, .string o.a, .string o.b, .int .u8 o.n, .int .u8 o.r])).run Tryd.prog w = .ok (.bool true) w := by
  have h1 : Tryd.prog.stoodInHeld 38 = false := by kernel_rfl
  have h2 : Tryd.prog.underlying 38 = some (.struct (Tryd.prog.fieldsOf 38)) := by kernel_rfl
  rw [run_eql_struct, run_equalIn_struct w 9999 _ _ _ h2 h1]
  simp only [Program.fieldsOf, Tryd.underlying38]
  simp [go_sem]
theorem opRead_err {bs : List UInt8} (h : (opRead bs).2 ≠ 0) : (opRead bs).1 = zeroOp := by
  unfold opRead at *
  split
  · rfl
  · split
    · rfl
    · split
      · rename_i h1 h2 h3; rw [if_neg h1, if_neg h2, if_pos h3] at h; exact absurd rfl h
      · rfl
theorem zeroOp_wf : zeroOp.wf := ⟨by decide, by decide, by decide⟩
theorem zeroOp_ok : checkV zeroOp = 0 := by
  have hb : bareB zeroOp = true := (bareB_iff (by decide)).2 (by unfold badR; decide)
  have hz : zOf zeroOp = [97, 98] := rfl
  unfold checkV
  rw [if_neg (by decide), if_neg (by rw [hb]; decide), hz, if_neg (by decide), if_neg (by decide), if_neg (by decide)]

set_option maxRecDepth 100000 in
set_option maxHeartbeats 1600000 in
theorem opReads_walk (w : World) (ht : SignsAt w) (A : Option Addr) (n c : Nat) (bs : List UInt8) (hx : RowAt w A (bcells bs)) (hn : bs.length = n) (hB : A = none → n = 0 ∧ c = 0) :
    Calls Tryd.prog 8 #[.slice A n c] w (BoolPost w true) := by
  by_cases h200 : 200 < n
  · have d1 : decide ((200 : Int) < n) = true := decide_eq_true (by omega)
    go_enter Tryd.func8, Tryd.ntmps8
    go_wp2_with fail
    refine (livesO_calls w ht).mono ?_
    rintro e w1 ⟨rfl, f1⟩
    go_wp2_with fail
    refine (livesO_calls w1 (ht.fr0 f1)).mono ?_
    rintro e w2 ⟨rfl, f2⟩
    go_wp2_with fail
    go_ret
    exact BoolPost.mk' rfl (f1.then' f2)
  · have d1 : decide ((200 : Int) < n) = false := decide_eq_false (by omega)
    have hlen : bs.length ≤ 1000000000000 := by omega
    have hok := fun o => @opRead_ok bs o
    have her := @opRead_err bs
    have hA := fun W hx => opRead_calls W A n c bs (ht := hx)
    have hR := fun W => opReadR_calls W bs hlen
    generalize opRead bs = q at *
    obtain ⟨o, e⟩ := q
    have hck : o.wf ∧ checkV o = 0 ∧ (e = 0 → writeB o (zOf o) = bs) := by
      by_cases he : e = 0
      · subst he
        obtain ⟨h1, h2, h3, _⟩ := hok o rfl
        exact ⟨h1, h2, fun _ => h3⟩
      · obtain rfl : o = zeroOp := her he
        exact ⟨zeroOp_wf, zeroOp_ok, fun h => absurd h he⟩
    clear hok her
    obtain ⟨hwf, hc0, hwb⟩ := hck
    have hby := fun W hx => bytesOk_calls W o hx hwf hc0
    have hwl : (writeB o (zOf o)).length ≤ 64 := (checkV_ok hc0).2.2.2.2
    generalize writeB o (zOf o) = wb at *
    have hnq := fun W => opNeqR W o
    obtain ⟨k, a, b, m, r⟩ := o
    unfold OpEPost OpV.v at hA hR
    unfold OpV.v at hby
    simp only [] at *
    have HW := hid hwb
    have HC := hid hc0
    clear hwb hc0 hwf h200
    go_enter Tryd.func8, Tryd.ntmps8
    go_wp2_with fail
    refine (livesO_calls w ht).mono ?_
    rintro e' w1 ⟨rfl, f1⟩
    go_wp2_with fail
    refine (hA w1 (ht.fr0 f1) (hx.fr0 f1) hn hB).mono ?_
    rintro e' w2 ⟨rfl, f2⟩
    have F2 := f1.then' f2
    have hb1 : BlkAt (w2.alloc (.cells #[.int .u8 k, .string a, .string b, .int .u8 m, .int .u8 r] 38)) w2.heap.size 38 #[.int .u8 k, .string a, .string b, .int .u8 m, .int .u8 r] := BlkAt.new _ _ _
    have F3 := F2.alloc (.cells #[.int .u8 k, .string a, .string b, .int .u8 m, .int .u8 r] 38)
    generalize hp1 : w2.heap.size = p1 at hb1
    have hst := Tryd.toStr (hx.fr0 F3) hn c
    go_wp2_with fail
    rw [hp1] at *
    generalize (w2.alloc (.cells #[.int .u8 k, .string a, .string b, .int .u8 m, .int .u8 r] 38)) = w3 at *
    refine (hR w3).mono ?_
    rintro e' w4 ⟨rfl, f4⟩
    have hb4 := (hb1.fr f4 id).al (.cells #[.int .u8 k, .string a, .string b, .int .u8 m, .int .u8 r] 69)
    have F4 := (F3.then' f4).alloc (.cells #[.int .u8 k, .string a, .string b, .int .u8 m, .int .u8 r] 69)
    have hb5 : BlkAt (w4.alloc (.cells #[.int .u8 k, .string a, .string b, .int .u8 m, .int .u8 r] 69)) w4.heap.size 69 #[.int .u8 k, .string a, .string b, .int .u8 m, .int .u8 r] := BlkAt.new _ _ _
    obtain ⟨x0, x1, x2, x3, x4, xf⟩ := BlkAt.c5 hb4
    obtain ⟨y0, y1, y2, y3, y4, yf⟩ := BlkAt.c5 hb5
    clear hA hR hst f1 f2 f4 F2 F3 hb1
    go_wp2_with fail
    generalize (w4.alloc (.cells #[.int .u8 k, .string a, .string b, .int .u8 m, .int .u8 r] 69)) = w5 at *
    refine (hby w5 (ht.fr0 F4)).mono ?_
    rintro e' w6 ⟨A', c', rfl, h6, f6⟩
    have F6 := F4.then' f6
    have hst1 := Tryd.toStr (own_row h6) rfl c'
    have hst2 := Tryd.toStr (hx.fr0 F6) hn c
    have heq := str_eq (mkS wb) (mkS bs)
    by_cases he : e = 0
    · have t1 : ((e : Int) != 0) = false := by rw [bne_eq_false_iff_eq]; omega
      have hw := HW.out he
      subst hw
      clear heq he hby hn
      go_wp2_with fail
      go_ret
      exact BoolPost.mk' (by simp) F6
    · have t1 : ((e : Int) != 0) = true := by rw [bne_iff_ne]; omega
      clear he hby heq hn
      go_wp2_with fail
      go_ret
      exact BoolPost.mk' rfl F6
theorem opReads_law (w : World) (ht : SignsAt w) (A : Option Addr) (n c : Nat) (b : List UInt8) (o : RowAt w A (bcells b) ∧ b.length = n ∧ n ≤ c ∧ c ≤ maxLen ∧ (A = none → n = 0 ∧ c = 0)) :
    Calls Tryd.prog 8 #[.slice A n c] w (BoolPost w true) :=
  opReads_walk w ht A n c b o.1 o.2.1 o.2.2.2.2
end Go.Proofs.YtcaihinenfnekaaDoor
