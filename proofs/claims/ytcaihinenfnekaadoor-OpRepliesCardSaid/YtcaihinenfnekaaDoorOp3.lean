/- op.bare. -/
import Derived.Test.YtcaihinenfnekaaDoorOp2
import Derived.Test.YtcaihinenfnekaaDoorIter
namespace Go.Proofs.YtcaihinenfnekaaDoor
open Go.RowKit

def OpV.C (o : OpV) : Array Value := #[.int .u8 o.k, .string o.a, .string o.b, .int .u8 o.n, .int .u8 o.r]
def setS (o out : OpV) (c : UInt8) : OpV := if c = 97 then {out with a := o.a} else if c = 98 then {out with b := o.b} else if c = 110 then {out with n := o.n} else if c = 114 then {out with r := o.r} else out
def bareFrom (o : OpV) (z : List UInt8) : OpV := z.foldl (setS o) ⟨o.k, ⟨#[]⟩, ⟨#[]⟩, 0, 0⟩
theorem bareFrom_snoc (o : OpV) {z : List UInt8} {k : Nat} {c : UInt8} (hc : z[k]? = some c) : bareFrom o (z.take (k + 1)) = setS o (bareFrom o (z.take k)) c := by
  unfold bareFrom; rw [take_snoc' hc, List.foldl_append]; rfl
theorem signs_ok : ∀ z ∈ signsL, ∀ c ∈ z, c = 97 ∨ c = 98 ∨ c = 110 ∨ c = 114 := by decide
def OpPost (w : World) (o : OpV) (e : Ending) (w' : World) : Prop := e = .returned o.v ∧ Fr noB w w'

set_option maxHeartbeats 1600000 in
theorem bare_calls (w : World) (o : OpV) (z : List UInt8) (ht : SignsAt w) (hz : signsL[o.k]? = some z) : Calls Tryd.prog 81 #[o.v] w (OpPost w (bareFrom o z)) := by
  obtain ⟨k, a, b, n, r⟩ := o
  have hk : k < 17 := (List.getElem?_eq_some_iff.1 hz).1
  have hc := ht k _ hz
  have hlt := ht.lt
  have hok := signs_ok z (List.mem_of_getElem? hz)
  have hb : 0 ≤ (k : Int) ∧ (k : Int) < 17 := ⟨by omega, by omega⟩
  have hcc : ∀ X Y Z, (((w.alloc X).alloc Y).alloc Z).cell? ⟨1, k, none⟩ = some (.string (mkS z)) := fun X Y Z => cell_al (cell_al (cell_al hc _) _) _
  clear hc
  generalize ho : (⟨k, a, b, n, r⟩ : OpV) = o
  have HO := hid ho
  clear hz ht
  have hv : o.v = .agg #[.int .u8 k, .string a, .string b, .int .u8 n, .int .u8 r] := by rw [← ho]; rfl
  rw [hv]; clear hv ho
  go_enter Tryd.func81, Tryd.ntmps81
  go_wp2_with fail
  go_loopw [] (fun wr => ∃ (j : Nat) (out : OpV), j ≤ z.length ∧ IterAt wr (w.heap.size + 3) z j ∧ BlkAt wr w.heap.size 38 o.C ∧ BlkAt wr (w.heap.size + 1) 38 (⟨0, ⟨#[]⟩, ⟨#[]⟩, 0, 0⟩ : OpV).C ∧ BlkAt wr (w.heap.size + 2) 38 out.C ∧ out = bareFrom o (z.take j) ∧ Fr noB w wr) (fun wr => z.length - wr.iterPos (w.heap.size + 3))
  case atStart =>
    refine ⟨0, ⟨k, ⟨#[]⟩, ⟨#[]⟩, 0, 0⟩, Nat.zero_le _, ?_, ?_, ?_, ?_, ?_, ?_⟩
    · have := IterAt.new (((w.alloc (.cells #[.int .u8 k, .string a, .string b, .int .u8 n, .int .u8 r] 38)).alloc (.cells #[.int .u8 0, .string ⟨#[]⟩, .string ⟨#[]⟩, .int .u8 0, .int .u8 0] 38)).alloc (.cells #[.int .u8 k, .string ⟨#[]⟩, .string ⟨#[]⟩, .int .u8 0, .int .u8 0] 38)) z
      simp only [al_size] at this
      exact this
    · rw [← HO.out]
      exact (((BlkAt.new w _ _).al _).al _).al _
    · have := ((BlkAt.new (w.alloc (.cells #[.int .u8 k, .string a, .string b, .int .u8 n, .int .u8 r] 38)) (⟨0, ⟨#[]⟩, ⟨#[]⟩, 0, 0⟩ : OpV).C 38).al (.cells #[.int .u8 k, .string ⟨#[]⟩, .string ⟨#[]⟩, .int .u8 0, .int .u8 0] 38)).al (.stringIter (mkS z) 0)
      simp only [al_size] at this
      exact this
    · have := (BlkAt.new ((w.alloc (.cells #[.int .u8 k, .string a, .string b, .int .u8 n, .int .u8 r] 38)).alloc (.cells #[.int .u8 0, .string ⟨#[]⟩, .string ⟨#[]⟩, .int .u8 0, .int .u8 0] 38)) (⟨k, ⟨#[]⟩, ⟨#[]⟩, 0, 0⟩ : OpV).C 38).al (.stringIter (mkS z) 0)
      simp only [al_size] at this
      exact this
    · rw [← HO.out]; rfl
    · exact ((((Fr.refl noB w).alloc _).alloc _).alloc _).alloc _
  case round =>
    obtain ⟨j, out, hj, hi, b0, b1, b2, hout, hf⟩ := hrel
    have hlt' := hf.size
    by_cases hjl : j < z.length
    · obtain ⟨c, hc⟩ : ∃ c, z[j]? = some c := ⟨_, List.getElem?_eq_getElem hjl⟩
      have hc4 := hok c (List.mem_of_getElem? hc)
      have HS : Hid (bareFrom o (z.take (j + 1)) = setS o out c) := by unfold Hid; rw [bareFrom_snoc o hc, hout]
      obtain ⟨w2, HW2, hnx, i2, f2⟩ := hi.step (P := Tryd.prog) hc (by rcases hc4 with rfl | rfl | rfl | rfl <;> decide)
      have d0 := b0.fr f2 (by unfold eqB; omega)
      have d1 := b1.fr f2 (by unfold eqB; omega)
      have d2 := b2.fr f2 (by unfold eqB; omega)
      have hf2 : Fr noB w w2 := ⟨f2.os.trans hf.os, f2.tape.trans hf.tape, f2.output.trans hf.output, Nat.le_trans hf.size f2.size, fun i hi hn => (f2.block i (by omega) (by unfold eqB; omega)).trans (hf.block i hi hn)⟩
      have x1 := d0.cell (k := 1) (v := .string o.a) rfl
      have x2 := d0.cell (k := 2) (v := .string o.b) rfl
      have x3 := d0.cell (k := 3) (v := .int .u8 o.n) rfl
      have x4 := d0.cell (k := 4) (v := .int .u8 o.r) rfl
      have y1 := d2.cell (k := 1) (v := .string out.a) rfl
      have y2 := d2.cell (k := 2) (v := .string out.b) rfl
      have y3 := d2.cell (k := 3) (v := .int .u8 out.n) rfl
      have y4 := d2.cell (k := 4) (v := .int .u8 out.r) rfl
      have z1 := d2.free 1
      have z2 := d2.free 2
      have z3 := d2.free 3
      have z4 := d2.free 4
      clear hc hok hout
      rcases hc4 with rfl | rfl | rfl | rfl
      · simp only [show (97 : UInt8).toNat = 97 from rfl] at hnx
        go_wp2_with fail
        go_roundw
        case rel => exact ⟨j + 1, setS o out 97, by omega, i2.fr (fr_set1 _ _ _ _) (by unfold eqB; omega), d0.fr (fr_set1 _ _ _ _) (by unfold eqB; omega), d1.fr (fr_set1 _ _ _ _) (by unfold eqB; omega), d2.set _ _, HS.out.symm, hf2.setCell (Or.inr (by show _ ≤ w.heap.size + 2; omega)) _⟩
        case measure => rw [hi.pos, (i2.fr (fr_set1 _ _ _ _) (by unfold eqB; omega)).pos]; omega
      · simp only [show (98 : UInt8).toNat = 98 from rfl] at hnx
        go_wp2_with fail
        go_roundw
        case rel => exact ⟨j + 1, setS o out 98, by omega, i2.fr (fr_set1 _ _ _ _) (by unfold eqB; omega), d0.fr (fr_set1 _ _ _ _) (by unfold eqB; omega), d1.fr (fr_set1 _ _ _ _) (by unfold eqB; omega), d2.set _ _, HS.out.symm, hf2.setCell (Or.inr (by show _ ≤ w.heap.size + 2; omega)) _⟩
        case measure => rw [hi.pos, (i2.fr (fr_set1 _ _ _ _) (by unfold eqB; omega)).pos]; omega
      · simp only [show (110 : UInt8).toNat = 110 from rfl] at hnx
        go_wp2_with fail
        go_roundw
        case rel => exact ⟨j + 1, setS o out 110, by omega, i2.fr (fr_set1 _ _ _ _) (by unfold eqB; omega), d0.fr (fr_set1 _ _ _ _) (by unfold eqB; omega), d1.fr (fr_set1 _ _ _ _) (by unfold eqB; omega), d2.set _ _, HS.out.symm, hf2.setCell (Or.inr (by show _ ≤ w.heap.size + 2; omega)) _⟩
        case measure => rw [hi.pos, (i2.fr (fr_set1 _ _ _ _) (by unfold eqB; omega)).pos]; omega
      · simp only [show (114 : UInt8).toNat = 114 from rfl] at hnx
        go_wp2_with fail
        go_roundw
        case rel => exact ⟨j + 1, setS o out 114, by omega, i2.fr (fr_set1 _ _ _ _) (by unfold eqB; omega), d0.fr (fr_set1 _ _ _ _) (by unfold eqB; omega), d1.fr (fr_set1 _ _ _ _) (by unfold eqB; omega), d2.set _ _, HS.out.symm, hf2.setCell (Or.inr (by show _ ≤ w.heap.size + 2; omega)) _⟩
        case measure => rw [hi.pos, (i2.fr (fr_set1 _ _ _ _) (by unfold eqB; omega)).pos]; omega
    · have : j = z.length := by omega
      subst this
      have HS : Hid (bareFrom o z = out) := by unfold Hid; rw [hout, List.take_of_length_le (Nat.le_refl _)]
      have hnx := hi.stop (P := Tryd.prog) (Nat.le_refl _)
      have y0 := b2.cell (k := 0) (v := .int .u8 out.k) rfl
      have y1 := b2.cell (k := 1) (v := .string out.a) rfl
      have y2 := b2.cell (k := 2) (v := .string out.b) rfl
      have y3 := b2.cell (k := 3) (v := .int .u8 out.n) rfl
      have y4 := b2.cell (k := 4) (v := .int .u8 out.r) rfl
      have q0 := b1.cell (k := 0) (v := .int .u8 0) rfl
      have q1 := b1.cell (k := 1) (v := .string ⟨#[]⟩) rfl
      have q2 := b1.cell (k := 2) (v := .string ⟨#[]⟩) rfl
      have q3 := b1.cell (k := 3) (v := .int .u8 0) rfl
      have q4 := b1.cell (k := 4) (v := .int .u8 0) rfl
      have z0 := b1.free 0
      have z1 := b1.free 1
      have z2 := b1.free 2
      have z3 := b1.free 3
      have z4 := b1.free 4
      clear hok hout
      go_wp2_with fail
      have e := ((((b1.set 0 (.int .u8 out.k)).set 1 (.string out.a)).set 2 (.string out.b)).set 3 (.int .u8 out.n)).set 4 (.int .u8 out.r)
      have HF := ((((hf.setCell (p := ⟨w.heap.size + 1, 0, none⟩) (Or.inr (by show _ ≤ w.heap.size + 1; omega)) (.int .u8 out.k)).setCell (p := ⟨w.heap.size + 1, 1, none⟩) (Or.inr (by show _ ≤ w.heap.size + 1; omega)) (.string out.a)).setCell (p := ⟨w.heap.size + 1, 2, none⟩) (Or.inr (by show _ ≤ w.heap.size + 1; omega)) (.string out.b)).setCell (p := ⟨w.heap.size + 1, 3, none⟩) (Or.inr (by show _ ≤ w.heap.size + 1; omega)) (.int .u8 out.n)).setCell (p := ⟨w.heap.size + 1, 4, none⟩) (Or.inr (by show _ ≤ w.heap.size + 1; omega)) (.int .u8 out.r)
      clear b0 b1 b2 y0 y1 y2 y3 y4 q0 q1 q2 q3 q4 z0 z1 z2 z3 z4 hnx hi
      revert e HF
      generalize World.setCell _ _ _ = wf
      intro e HF
      have e0 := e.cell (k := 0) (v := .int .u8 out.k) rfl
      have e1 := e.cell (k := 1) (v := .string out.a) rfl
      have e2 := e.cell (k := 2) (v := .string out.b) rfl
      have e3 := e.cell (k := 3) (v := .int .u8 out.n) rfl
      have e4 := e.cell (k := 4) (v := .int .u8 out.r) rfl
      clear e
      have hq : OpPost w (bareFrom o z) (.returned out.v) wf := ⟨by rw [HS.out], HF⟩
      exact bodyPost_ret (v := out.v) (by simp [OpV.v, results, Tryd.results81, go_sem, e0, e1, e2, e3, e4]) rfl hq
end Go.Proofs.YtcaihinenfnekaaDoor
