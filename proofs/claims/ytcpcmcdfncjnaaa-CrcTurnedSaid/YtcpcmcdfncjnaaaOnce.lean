/- sync.Once, sync.Mutex, atomic.Bool in one goroutine, at this dump's numbers. -/
import Derived.Test.YtcpcmcdfncjnaaaConv
import Derived.Defers
import Derived.Laws.Pointers
import Derived.Laws.LoneSync
import Derived.RegionTactic
import Derived.RegionCalls
import Derived.ChangeAlike
import Derived.Laws.NewBlocks
namespace Go.Proofs.Ytcpcmcdfncjnaaa
open Go.RowKit

theorem Try.disable (w : World) : (callFunc 98 #[]).run Try.prog w = .ok (.value (.tuple #[])) w := run_call_mark0 Try.func98 (by kernel_rfl) (by kernel_rfl) (by kernel_rfl) .disable (by kernel_rfl) w
theorem Try.enable (w : World) : (callFunc 100 #[]).run Try.prog w = .ok (.value (.tuple #[])) w := run_call_mark0 Try.func100 (by kernel_rfl) (by kernel_rfl) (by kernel_rfl) .enable (by kernel_rfl) w
theorem Try.acquire (a : Addr) (w : World) : (callFunc 101 #[.pointer (some a)]).run Try.prog w = .ok (.value (.tuple #[])) w := run_call_marked Try.func101 (by kernel_rfl) (by kernel_rfl) (by kernel_rfl) .acquire (by kernel_rfl) a w
theorem Try.releaseMerge (a : Addr) (w : World) : (callFunc 103 #[.pointer (some a)]).run Try.prog w = .ok (.value (.tuple #[])) w := run_call_marked Try.func103 (by kernel_rfl) (by kernel_rfl) (by kernel_rfl) .releaseMerge (by kernel_rfl) a w

/-- atomic.Bool's Load. -/
theorem loadB_calls (a : Addr) (d : Nat) (w : World) (hc : w.cell? a = some (.int .u32 d)) (hd : d ≤ 1) :
    Calls Try.prog 82 #[.pointer (some a)] w fun e w' => e = .returned (.bool (d == 1)) ∧ w = w' := by
  have hl := run_call_load (P := Try.prog) Try.func91 (by kernel_rfl) (by kernel_rfl) (by kernel_rfl) .u32 (by kernel_rfl) hc
  rcases (show d = 0 ∨ d = 1 by omega) with rfl | rfl
  · go_enter Try.func82, Try.ntmps82
    go_wp2
    go_ret
    exact ⟨rfl, rfl⟩
  · go_enter Try.func82, Try.ntmps82
    go_wp2
    go_ret
    exact ⟨rfl, rfl⟩
/-- atomic.Bool's Store(true), as a call. -/
theorem storeB_calls (a : Addr) (x : Value) (w : World) (hc : w.cell? a = some x) (hz : w.frozen? a = false) :
    Calls Try.prog 90 #[.pointer (some a), .bool true] w fun e w' => e = .returned (.tuple #[]) ∧ w' = w.drew.setCell a (.int .u32 1) := by
  have hc' : w.drew.cell? a = some x := by go_simp
  have hz' : w.drew.frozen? a = false := by go_simp
  have hst := run_call_store (P := Try.prog) Try.func94 (by kernel_rfl) (by kernel_rfl) (by kernel_rfl) (by kernel_rfl) (k := .u32) (y := 1) hc' hz'
  go_enter Try.func90, Try.ntmps90
  go_wp2
  go_region_calls
  all_goals (go_end0; exact ⟨rfl, rfl⟩)
/-- The same, deferred. -/
theorem storeB_deferred (a : Addr) (x : Value) (u : FrameMode) (w : World) (hc : w.cell? a = some x) (hz : w.frozen? a = false) :
    CallsD Try.prog 90 #[.pointer (some a), .bool true] u w fun e u' w' => u' = u ∧ (e = .returned (.tuple #[]) ∧ w' = w.drew.setCell a (.int .u32 1)) := by
  have hc' : w.drew.cell? a = some x := by go_simp
  have hz' : w.drew.frozen? a = false := by go_simp
  have hst := run_call_store (P := Try.prog) Try.func94 (by kernel_rfl) (by kernel_rfl) (by kernel_rfl) (by kernel_rfl) (k := .u32) (y := 1) hc' hz'
  go_enter_d Try.func90, Try.ntmps90
  go_wp2
  go_region_calls
  all_goals (go_end0; exact ⟨rfl, rfl⟩)
set_option maxRecDepth 100000 in
theorem unlock_deferred (a : Addr) (u : FrameMode) (w : World) (hc : w.cell? a = some (.int .i32 1)) (hz : w.frozen? a = false) :
    CallsD Try.prog 93 #[.pointer (some a)] u w fun e u' w' => u' = u ∧ (e = .returned (.tuple #[]) ∧ w' = w.setCell a (.int .i32 0)) := by
  have hd := Try.disable
  have he := Try.enable
  have hr := Try.releaseMerge
  have hadd := run_call_add (P := Try.prog) Try.func104 (by kernel_rfl) (by kernel_rfl) (by kernel_rfl) .i32 (by kernel_rfl) (y := -1) (s := 0) hc hz (by simp [go_sem]; rfl)
  have hcv := run_convert_to_unsafe (P := Try.prog) (src := 157) (dst := 161) Try.underlying157 Try.underlying161 (by kernel_rfl) hc
  go_enter_d Try.func93, Try.ntmps93
  go_wp2
  go_end0
  go_wp2
  go_end0
  exact ⟨rfl, rfl⟩
set_option maxRecDepth 100000 in
theorem lock_free (a : Addr) (w : World) (hc : w.cell? a = some (.int .i32 0)) (hz : w.frozen? a = false) :
    Calls Try.prog 92 #[.pointer (some a)] w fun e w' => e = .returned (.tuple #[]) ∧ w' = w.setCell a (.int .i32 1) := by
  have hd := Try.disable
  have he := Try.enable
  have ha := Try.acquire
  have hcas := run_call_cas_hit (P := Try.prog) Try.func99 (by kernel_rfl) (by kernel_rfl) (by kernel_rfl) .i32 (by kernel_rfl) (y := 1) hc hz
  have hc' : (w.setCell a (.int .i32 1)).cell? a = some (.int .i32 1) := World.cell?_setCell_same w a _ hc
  have hcv := run_convert_to_unsafe (P := Try.prog) (src := 157) (dst := 161) Try.underlying157 Try.underlying161 (by kernel_rfl) hc'
  go_enter Try.func92, Try.ntmps92
  go_wp2
  first | go_end0 | (simp only [Exit.inBlock, Exit.then]; refine bodyPost_ret (results_none rfl _ _ _) rfl ?_) | refine bodyPost_ret (results_none rfl _ _ _) rfl ?_
  go_wp2
  go_end0
  exact ⟨rfl, rfl⟩

/-! ### A block of cells, whole -/
def BlkAt (w : World) (p : Nat) (T : TypeId) (C : Array Value) : Prop := w.heap[p]? = some (.cells C T (0, 0))
theorem BlkAt.fr {S : Nat → Prop} {w w' : World} {p : Nat} {T : TypeId} {C : Array Value} (h : BlkAt w p T C) (f : Fr S w w') (hp : ¬ S p) : BlkAt w' p T C := f.heap h hp
theorem BlkAt.cell {w : World} {p : Nat} {T : TypeId} {C : Array Value} (h : BlkAt w p T C) {k : Nat} {v : Value} (hk : C[k]? = some v) : w.cell? ⟨p, k, none⟩ = some v := by
  rw [cell_of_row _ _ _ _ _ _ h]; exact hk
theorem BlkAt.free {w : World} {p : Nat} {T : TypeId} {C : Array Value} (h : BlkAt w p T C) (k : Nat) : w.frozen? ⟨p, k, none⟩ = false := by
  unfold BlkAt at h
  simp [World.frozen?, h]
theorem BlkAt.set {w : World} {p : Nat} {T : TypeId} {C : Array Value} (h : BlkAt w p T C) (k : Nat) (v : Value) : BlkAt (w.setCell ⟨p, k, none⟩ v) p T (C.setIfInBounds k v) := by
  unfold BlkAt at *
  simp only [World.setCell, Array.getElem?_modify, h]
  simp
theorem BlkAt.drew {w : World} {p : Nat} {T : TypeId} {C : Array Value} (h : BlkAt w p T C) : BlkAt w.drew p T C := h
theorem BlkAt.lt {w : World} {p : Nat} {T : TypeId} {C : Array Value} (h : BlkAt w p T C) : p < w.heap.size := (Array.getElem?_eq_some_iff.1 h).1
theorem fr_set1 (w : World) (p k : Nat) (v : Value) : Fr (eqB p) w (w.setCell ⟨p, k, none⟩ v) := (Fr.refl (eqB p) w).setCell (p := ⟨p, k, none⟩) (Or.inl rfl) v
theorem sib_ne {C : Array Value} {i j : Nat} {v : Value} (h : i ≠ j) : (C.setIfInBounds i v)[j]? = C[j]? := by simp [Array.getElem?_setIfInBounds, h]
theorem sib_eq {C : Array Value} {i : Nat} {v : Value} (h : i < C.size) : (C.setIfInBounds i v)[i]? = some v := by simp [Array.getElem?_setIfInBounds, h]
end Go.Proofs.Ytcpcmcdfncjnaaa
