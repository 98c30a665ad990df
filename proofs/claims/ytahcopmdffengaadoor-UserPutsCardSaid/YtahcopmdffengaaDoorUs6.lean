/- user.Up, Clone. -/
import Derived.Test.YtahcopmdffengaaDoorUs5
namespace Go.Proofs.YtahcopmdffengaaDoor
open Go.RowKit
def upU (u : UsV) : UsV := ⟨u.name, u.hash, ⟨#[]⟩, false, []⟩
theorem NewStrs.of_le {w v w' : World} {l : List ByteArray} {A : Option Addr} {n c : Nat} (h : NewStrs v l A n c w') (hs : w.heap.size ≤ v.heap.size) : NewStrs w l A n c w' :=
  ⟨h.1, h.2.1, h.2.2.1, h.2.2.2.1, fun a e h0 => ⟨Nat.le_trans hs (h.2.2.2.2.1 a e h0).1, (h.2.2.2.2.1 a e h0).2⟩, h.2.2.2.2.2⟩
theorem two_blk (w : World) (C D : Array Value) (T U : TypeId) : BlkAt ((w.alloc (.cells C T)).alloc (.cells D U)) w.heap.size T C ∧ BlkAt ((w.alloc (.cells C T)).alloc (.cells D U)) (w.heap.size + 1) U D ∧ Fr noB w ((w.alloc (.cells C T)).alloc (.cells D U)) := by
  refine ⟨(BlkAt.new _ _ _).al _, ?_, ((Fr.refl noB w).alloc _).alloc _⟩
  have := BlkAt.new (w.alloc (.cells C T)) D U
  rwa [al_size] at this
set_option maxRecDepth 100000 in
set_option maxHeartbeats 1600000 in
theorem upU_calls (w : World) (u : UsV) (s : Value) : Calls Tryd.prog 25 #[.agg (u.C s)] w (fun e w' => e = .returned (.agg ((upU u).C (.slice none 0 0))) ∧ Fr noB w w') := by
  obtain ⟨hb0, hb1, f0⟩ := two_blk w (u.C s) #[.string ⟨#[]⟩, .string ⟨#[]⟩, .string ⟨#[]⟩, .bool false, .slice none 0 0] 35 35
  have hres : Hid (Tryd.f25.results = #[.cell 2 35]) := by unfold Hid; kernel_rfl
  unfold UsV.C upU at *
  go_enter Tryd.func25, Tryd.ntmps25
  go_upto_region 1 with fail
  generalize ((w.alloc _).alloc _) = wa at *
  obtain ⟨qb, hq⟩ : ∃ qb, w.heap.size = qb := ⟨_, rfl⟩
  rw [hq] at hb0 hb1 ⊢
  obtain ⟨x0, x1, x2, x3, x4, xf⟩ := BlkAt.c5 hb0
  go_wp2_with (refine wpList_store_blk rfl rfl hb1 0 (vs := [.string u.name, .string u.hash, .string ⟨#[]⟩, .bool false, .slice none 0 0]) rfl rfl (by kernel_rfl) (by kernel_rfl) (by simp) rfl ?_; intro w3 f3 hb3)
  exact bodyPost_ret (v := .agg #[.string u.name, .string u.hash, .string ⟨#[]⟩, .bool false, .slice none 0 0]) (results_cell1 hres.out rfl (load_blk hb3 Tryd.underlying35 rfl (by kernel_rfl))) rfl ⟨rfl, f0.trans f3 (fun i hi h => by unfold eqB at h; omega)⟩
set_option maxRecDepth 100000 in
set_option maxHeartbeats 1600000 in
theorem cloneU_calls (w : World) (u : UsV) (A : Option Addr) (n c : Nat) (hx : RowAt w A (strs u.gs)) (hn : u.gs.length = n) (hA : A = none → n = 0 ∧ c = 0) (hl : n ≤ 1000000) :
    Calls Tryd.prog 28 #[.agg (u.C (.slice A n c))] w (fun e w' => ∃ A' c', e = .returned (.agg (u.C (.slice A' n c'))) ∧ w'.ownsRow w.heap.size 9 1 (.slice A' n c') n (strs u.gs) ∧ Fr noB w w') := by
  obtain ⟨hb0, hb1, f0⟩ := two_blk w (u.C (.slice A n c)) #[.string ⟨#[]⟩, .string ⟨#[]⟩, .string ⟨#[]⟩, .bool false, .slice none 0 0] 35 35
  have hres : Hid (Tryd.f28.results = #[.cell 2 35]) := by unfold Hid; kernel_rfl
  have hc := fun W f => cloneS_own W A n c u.gs (hx.fr0 f) hn hA (by omega)
  clear hx hn hA hl
  unfold UsV.C at *
  go_enter Tryd.func28, Tryd.ntmps28
  go_upto_region 1 with fail
  generalize ((w.alloc _).alloc _) = wa at *
  obtain ⟨qb, hq⟩ : ∃ qb, w.heap.size = qb := ⟨_, rfl⟩
  rw [hq] at hb0 hb1 ⊢
  obtain ⟨x0, x1, x2, x3, x4, xf⟩ := BlkAt.c5 hb0
  go_wp2_with fail
  refine (hc wa f0).mono ?_
  rintro e w1 ⟨A', c', rfl, hN, f1⟩
  clear x0 x1 x2 x3 x4 xf
  have hb2 := hb0.fr f1 id
  have hb3 := hb1.fr f1 id
  obtain ⟨x0, x1, x2, x3, x4, xf⟩ := BlkAt.c5 hb2
  have hb4 := hb2.set 4 (.slice A' n c')
  have hb5 := hb3.fr (fr_set1 w1 qb 4 (.slice A' n c')) (by unfold eqB; omega)
  have f2 := fr_set1 w1 qb 4 (.slice A' n c')
  go_upto_region 2 with fail
  generalize (w1.setCell _ _) = w2 at *
  clear x0 x1 x2 x3 x4 xf
  go_wp2_with (first | (refine wpList_load_blk rfl rfl hb4 0 rfl (cs := [.string u.name, .string u.hash, .string u.mail, .bool u.dis, .slice A' n c']) rfl Tryd.underlying35 rfl (by kernel_rfl) ?_) | (refine wpList_store_blk rfl rfl hb5 0 (vs := [.string u.name, .string u.hash, .string u.mail, .bool u.dis, .slice A' n c']) rfl rfl (by kernel_rfl) (by kernel_rfl) (by simp) rfl ?_; intro w3 f3 hb6))
  refine bodyPost_ret (v := .agg #[.string u.name, .string u.hash, .string u.mail, .bool u.dis, .slice A' n c']) (results_cell1 hres.out rfl (load_blk hb6 Tryd.underlying35 rfl (by kernel_rfl))) rfl ⟨A', c', rfl, ?_, ?_⟩
  · have hq2 := hb1.lt
    have hg : ∀ g, (Value.slice A' n c').ownBlock = some g → wa.heap.size ≤ g := fun g hg => (hN.lt g hg).1
    have f0s := f0.size
    refine own_fr (own_fr (own_mono hN fun g e => ?_) f2 fun g e h => ?_) f3 fun g e h => ?_
    · have := hg g e; omega
    · have := hg g e; unfold eqB at h; omega
    · have := hg g e; unfold eqB at h; omega
  · refine ((f0.then' f1).trans f2 (fun i hi h => by unfold eqB at h; omega)).trans f3 (fun i hi h => by unfold eqB at h; omega)
end Go.Proofs.YtahcopmdffengaaDoor
