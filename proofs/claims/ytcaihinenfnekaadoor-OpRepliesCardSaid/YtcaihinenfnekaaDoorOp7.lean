/- op.Bytes, interrexlaw14.lives. -/
import Derived.Test.YtcaihinenfnekaaDoorOp6
namespace Go.Proofs.YtcaihinenfnekaaDoor
open Go.RowKit

def BytesEPost (w : World) (bs : List UInt8) (e : Ending) (w' : World) : Prop :=
  ∃ A c, e = .returned (.tuple #[.slice A bs.length c, .int .i64 0]) ∧ w'.ownsRow w.heap.size 5 1 (.slice A bs.length c) bs.length (bcells bs) ∧ Fr noB w w'
theorem checkV_ok {o : OpV} (h : checkV o = 0) : o.k < 17 ∧ bareB o = true ∧ (zOf o).all (rightV o) = true ∧ o.a.size + o.b.size ≤ 64 ∧ (writeB o (zOf o)).length ≤ 64 := by
  unfold checkV at h
  split at h
  · cases h
  · split at h
    · cases h
    · split at h
      · cases h
      · split at h
        · cases h
        · split at h
          · cases h
          · rename_i h1 h2 h3 h4 h5
            exact ⟨by omega, by simpa using h2, by simpa using h3, by omega, by omega⟩
set_option maxHeartbeats 1600000 in
theorem bytesOk_calls (w : World) (o : OpV) (ht : SignsAt w) (hw : o.wf) (h : checkV o = 0) : Calls Tryd.prog 39 #[o.v] w (BytesEPost w (writeB o (zOf o))) := by
  obtain ⟨hk, _, _, hab, _⟩ := checkV_ok h
  have hb0 : BlkAt (w.alloc (.cells #[.int .u8 o.k, .string o.a, .string o.b, .int .u8 o.n, .int .u8 o.r] 38)) w.heap.size 38 o.C := BlkAt.new _ _ _
  have f0 : Fr noB w (w.alloc (.cells #[.int .u8 o.k, .string o.a, .string o.b, .int .u8 o.n, .int .u8 o.r] 38)) := (Fr.refl noB w).alloc _
  have hck := check_calls (w.alloc (.cells #[.int .u8 o.k, .string o.a, .string o.b, .int .u8 o.n, .int .u8 o.r] 38)) o (ht.fr0 f0) hw (by omega) (by omega)
  rw [h] at hck
  clear h
  have hv : o.v = .agg #[.int .u8 o.k, .string o.a, .string o.b, .int .u8 o.n, .int .u8 o.r] := rfl
  rw [hv]
  clear hv
  go_enter Tryd.func39, Tryd.ntmps39
  go_wp2_with fail
  refine hck.mono ?_
  rintro e w1 ⟨rfl, f1⟩
  have hb1 := hb0.fr f1 id
  have F1 := f0.then' f1
  clear hb0 f0 f1 hck
  have x0 := hb1.cell (k := 0) (v := .int .u8 o.k) rfl
  have x1 := hb1.cell (k := 1) (v := .string o.a) rfl
  have x2 := hb1.cell (k := 2) (v := .string o.b) rfl
  have x3 := hb1.cell (k := 3) (v := .int .u8 o.n) rfl
  have x4 := hb1.cell (k := 4) (v := .int .u8 o.r) rfl
  have hwc := write_calls w1 o (zOf o) (ht.fr0 F1) (zOf_get hk) hw (by omega) (by omega)
  generalize writeB o (zOf o) = bs at *
  go_wp2_with fail
  refine hwc.mono ?_
  rintro e w2 ⟨A, c, rfl, h2, f2⟩
  have F2 := F1.then' f2
  have h4 := own_mono h2 (b' := w.heap.size) (fun g hg => by have := F1.size; rcases h2.lt g hg with ⟨h, _⟩; omega)
  clear h2 hwc x0 x1 x2 x3 x4 hb1
  go_wp2_with fail
  go_ret2
  exact ⟨A, c, rfl, h4, F2⟩
set_option maxHeartbeats 1600000 in
theorem bytesNo_calls (w : World) (o : OpV) (ht : SignsAt w) (hw : o.wf) (ha1 : o.a.size ≤ 1000000000000000) (hb1 : o.b.size ≤ 1000000000000000) (h : checkV o ≠ 0) :
    Calls Tryd.prog 39 #[o.v] w (fun e w' => e = .returned (.tuple #[.slice none 0 0, .int .i64 (checkV o : Nat)]) ∧ Fr noB w w') := by
  have f0 : Fr noB w (w.alloc (.cells #[.int .u8 o.k, .string o.a, .string o.b, .int .u8 o.n, .int .u8 o.r] 38)) := (Fr.refl noB w).alloc _
  have hck := check_calls (w.alloc (.cells #[.int .u8 o.k, .string o.a, .string o.b, .int .u8 o.n, .int .u8 o.r] 38)) o (ht.fr0 f0) hw (by omega) (by omega)
  generalize checkV o = v0 at *
  have t1 : ((v0 : Int) != 0) = true := by simp; omega
  have hv : o.v = .agg #[.int .u8 o.k, .string o.a, .string o.b, .int .u8 o.n, .int .u8 o.r] := rfl
  rw [hv]
  clear hv h
  go_enter Tryd.func39, Tryd.ntmps39
  go_wp2_with fail
  refine hck.mono ?_
  rintro e w1 ⟨rfl, f1⟩
  have F1 := f0.then' f1
  clear f0 f1 hck
  go_wp2_with fail
  go_ret2
  exact ⟨rfl, F1⟩
def op0 : OpV := ⟨0, ⟨#[97]⟩, ⟨#[49]⟩, 0, 0⟩
theorem op0_wf : op0.wf := ⟨by decide, by decide, by decide⟩
theorem op0_bare : bareFrom op0 (zOf op0) = op0 := by
  rw [OpV.eq_iff]
  exact ⟨rfl, rfl, rfl, rfl, rfl⟩
theorem op0_bytes : writeB op0 (zOf op0) = [0, 1, 0, 97, 1, 0, 49] := by decide
theorem op0_ok : checkV op0 = 0 := by
  unfold checkV
  have h1 : bareB op0 = true := by unfold bareB; rw [op0_bare]; simp
  rw [if_neg (by decide), if_neg (by rw [h1]; decide), if_neg (by decide), if_neg (by decide), op0_bytes, if_neg (by decide)]
set_option maxHeartbeats 1600000 in
theorem livesO_calls (w : World) (ht : SignsAt w) : Calls Tryd.prog 15 #[] w (BoolPost w true) := by
  have hcl := bytesOk_calls w op0 ht op0_wf op0_ok
  rw [op0_bytes] at hcl
  go_enter Tryd.func15, Tryd.ntmps15
  go_wp2_with fail
  refine hcl.mono ?_
  rintro e w1 ⟨A, c, rfl, h1, f1⟩
  have R3 := Tryd.toStr (own_row h1) rfl c
  simp only [show ([0, 1, 0, 97, 1, 0, 49] : List UInt8).length = 7 from rfl] at *
  have hk : mkS [0, 1, 0, 97, 1, 0, 49] = ⟨#[0, 1, 0, 97, 1, 0, 49]⟩ := rfl
  rw [hk] at R3
  clear h1 hcl
  go_wp2_with fail
  go_ret
  exact BoolPost.mk' (by decide) f1
end Go.Proofs.YtcaihinenfnekaaDoor
