/- Contracts, several texts in one. -/
import Derived.Test.YtahcopmdffengaaDoorUs10
import Derived.Test.YtahcopmdffengaaDoorUs9
import Derived.Test.YtahcopmdffengaaDoorRef5
import Derived.Test.YtahcopmdffengaaDoorConv
/- The reference's Get of a user. -/
namespace Go.Proofs.YtahcopmdffengaaDoor
open Go.RowKit
theorem rTruth_inv06 {r : Rd} (hi : r.inv) : (rTruth r).1.inv := by
  unfold rTruth
  simp only
  split
  · exact rFail_inv 4 (rNum_inv 1 hi)
  · exact rNum_inv 1 hi
theorem rTruth_left06 (r : Rd) : (rTruth r).1.bs.length ≤ r.bs.length := by
  unfold rTruth
  simp only
  split
  · exact Nat.le_trans (rFail_len _ 4) (rTake_left r 1)
  · exact rTake_left r 1
theorem results_cc {P : Program} {fn : Func} {tmps : Array Value} {w : World} {k m : Tmp} {T U : TypeId} {b c : Nat} {v u : Value} (hr : fn.results = #[.cell k T, .cell m U]) (ht : tmps.getD k undef = .pointer (some ⟨b, 0, none⟩)) (hu : tmps.getD m undef = .pointer (some ⟨c, 0, none⟩)) (hl : (loadVar T ⟨b, 0, none⟩).run P w = .ok v w) (hl2 : (loadVar U ⟨c, 0, none⟩).run P w = .ok u w) :
    (results fn tmps).run P w = .ok (.tuple #[v, u]) w := by
  have ht' : tmps[k]?.getD undef = .pointer (some ⟨b, 0, none⟩) := by simpa using ht
  have hu' : tmps[m]?.getD undef = .pointer (some ⟨c, 0, none⟩) := by simpa using hu
  unfold results
  rw [hr]
  generalize loadVar = ld at hl hl2 ⊢
  simp [go_sem, ht', hu', hl, hl2]
theorem five_blk (w : World) (C0 C1 C2 C3 C4 : Array Value) (T0 T1 T2 T3 T4 : TypeId) : BlkAt (((((w.alloc (.cells C0 T0)).alloc (.cells C1 T1)).alloc (.cells C2 T2)).alloc (.cells C3 T3)).alloc (.cells C4 T4)) w.heap.size T0 C0 ∧
    BlkAt (((((w.alloc (.cells C0 T0)).alloc (.cells C1 T1)).alloc (.cells C2 T2)).alloc (.cells C3 T3)).alloc (.cells C4 T4)) (w.heap.size + 1) T1 C1 ∧ BlkAt (((((w.alloc (.cells C0 T0)).alloc (.cells C1 T1)).alloc (.cells C2 T2)).alloc (.cells C3 T3)).alloc (.cells C4 T4)) (w.heap.size + 2) T2 C2 ∧
    BlkAt (((((w.alloc (.cells C0 T0)).alloc (.cells C1 T1)).alloc (.cells C2 T2)).alloc (.cells C3 T3)).alloc (.cells C4 T4)) (w.heap.size + 3) T3 C3 ∧ BlkAt (((((w.alloc (.cells C0 T0)).alloc (.cells C1 T1)).alloc (.cells C2 T2)).alloc (.cells C3 T3)).alloc (.cells C4 T4)) (w.heap.size + 4) T4 C4 ∧
    Fr noB w (((((w.alloc (.cells C0 T0)).alloc (.cells C1 T1)).alloc (.cells C2 T2)).alloc (.cells C3 T3)).alloc (.cells C4 T4)) := by
  have n1 := BlkAt.new (w.alloc (.cells C0 T0)) C1 T1
  have n2 := BlkAt.new ((w.alloc (.cells C0 T0)).alloc (.cells C1 T1)) C2 T2
  have n3 := BlkAt.new (((w.alloc (.cells C0 T0)).alloc (.cells C1 T1)).alloc (.cells C2 T2)) C3 T3
  have n4 := BlkAt.new ((((w.alloc (.cells C0 T0)).alloc (.cells C1 T1)).alloc (.cells C2 T2)).alloc (.cells C3 T3)) C4 T4
  simp only [al_size] at n1 n2 n3 n4
  exact ⟨((((BlkAt.new _ _ _).al _).al _).al _).al _, ((n1.al _).al _).al _, (n2.al _).al _, n3.al _, n4, (((((Fr.refl noB w).alloc _).alloc _).alloc _).alloc _).alloc _⟩
def GetRUPost (w : World) (pb : Rd × UsV) (e : Ending) (w' : World) : Prop :=
  ∃ A n c, e = .returned (.tuple #[.agg #[.string (mkS pb.1.bs), .int .i64 (pb.1.e : Nat)], .agg (pb.2.C (.slice A n c))]) ∧ Hid (pb.2.gs.length = n) ∧ n ≤ 65535 ∧ RowAt w' A (strs pb.2.gs) ∧ Fr noB w w'
set_option maxRecDepth 100000 in
set_option maxHeartbeats 3200000 in
theorem getRU_good (w : World) (r : Rd) (z : Int) (hi : r.inv) (hl : r.bs.length ≤ 1000000000) (hz : z = 1 ∨ z = 2) :
    Calls Tryd.prog 33 #[.agg #[.string (mkS r.bs), .int .i64 (r.e : Nat)], .int .i64 z] w (GetRUPost w (getU z r)) := by
  have HG : Hid (getU z r = (rFail (rdU z r).1 (checkU z (rdU z r).2), if (rFail (rdU z r).1 (checkU z (rdU z r).2)).e = 0 then (rdU z r).2 else zU)) := by unfold Hid getU; rw [if_pos hz]
  have hres : Hid (Tryd.f33.results = #[.cell 4 46, .cell 5 35]) := by unfold Hid; kernel_rfl
  obtain ⟨hR, h4, h5, h6, h7, F⟩ := five_blk w #[.string (mkS r.bs), .int .i64 (r.e : Nat)] #[.string ⟨#[]⟩, .int .i64 0] #[.string ⟨#[]⟩, .string ⟨#[]⟩, .string ⟨#[]⟩, .bool false, .slice none 0 0] #[.string ⟨#[]⟩, .string ⟨#[]⟩, .string ⟨#[]⟩, .bool false, .slice none 0 0] #[.string ⟨#[]⟩, .string ⟨#[]⟩, .string ⟨#[]⟩, .bool false, .slice none 0 0] 46 46 35 35 35
  have i1 := rText_inv hi 65535
  have l1 := rText_left r 65535
  obtain ⟨r1, t1, q1⟩ := pair_ex' (rText r 65535)
  rw [q1] at i1 l1
  have i2 := rText_inv i1 65535
  have l2 := rText_left r1 65535
  obtain ⟨r2, t2, q2⟩ := pair_ex' (rText r1 65535)
  simp only at i1 l1 i2 l2
  rw [q2] at i2 l2
  have i3 := rText_inv i2 65535
  have l3 := rText_left r2 65535
  obtain ⟨r3, t3, q3⟩ := pair_ex' (rText r2 65535)
  simp only at i2 l2 i3 l3
  rw [q3] at i3 l3
  have i4 := rTruth_inv06 i3
  have l4 := rTruth_left06 r3
  obtain ⟨r4, t4, q4⟩ := pair_ex' (rTruth r3)
  simp only at i3 l3 i4 l4
  rw [q4] at i4 l4
  obtain ⟨r5, t5, q5⟩ := pair_ex' (rRow r4 65535 65535)
  simp only at i4 l4
  have c1 := fun W => textGetR_calls W r 65535 hi (by omega) (by decide) (by decide)
  have c2 := fun W => textGetR_calls W r1 65535 i1 (by omega) (by decide) (by decide)
  have c3 := fun W => textGetR_calls W r2 65535 i2 (by omega) (by decide) (by decide)
  have c4 := fun W => truthGetR_calls W r3 i3 (by omega)
  have c5 := fun W => rowGetR_calls W r4 65535 65535 i4 (by omega) (by decide) (by decide) (by decide) (by decide)
  have e1 : rdU 1 r = (r2, ⟨mkS t1, mkS t2, ⟨#[]⟩, false, []⟩) := by unfold rdU; rw [if_neg (by decide)]; simp only [q1, q2]
  have e2 : rdU 2 r = (r5, ⟨mkS t1, mkS t2, mkS t3, t4, t5⟩) := by unfold rdU; rw [if_pos rfl]; simp only [q1, q2, q3, q4, q5]
  rw [q1] at c1
  rw [q2] at c2
  rw [q3] at c3
  rw [q4] at c4
  rw [q5] at c5
  unfold RRPost at c1 c2 c3 c4
  unfold RowRPost at c5
  unfold Rd.val at c1 c2 c3 c4 c5
  simp only [] at c1 c2 c3 c4 c5
  clear q1 q2 q3 q4 q5 i1 i2 i3 i4 l1 l2 l3 l4
  rcases hz with rfl | rfl
  case inl =>
    rw [e1] at HG
    clear e1 e2 c3 c4 c5
    go_enter Tryd.func33, Tryd.ntmps33
    go_upto_region 5 with fail
    generalize hwa : (((((w.alloc _).alloc _).alloc _).alloc _).alloc _) = v0 at *
    obtain ⟨pb, hq⟩ : ∃ pb, w.heap.size = pb := ⟨_, rfl⟩
    have HQ := hid hq
    rw [hq] at hR h4 h5 h6 h7 ⊢
    clear hwa hq
    obtain ⟨y0, y1, yf⟩ := BlkAt.c2 hR
    go_wp2_with fail
    refine (c1 v0).mono ?_
    rintro e w1 ⟨rfl, g1⟩
    clear y0 y1 yf
    replace hR := hR.fr g1 id
    replace h4 := h4.fr g1 id
    replace h5 := h5.fr g1 id
    replace h6 := h6.fr g1 id
    replace h7 := h7.fr g1 id
    replace F := F.then' g1
    clear g1
    obtain ⟨y0, y1, yf⟩ := BlkAt.c2 hR
    obtain ⟨x0, x1, x2, x3, x4, xf⟩ := BlkAt.c5 h7
    have xf0 := xf 0
    have yf0 := yf 0
    have yf1 := yf 1
    replace hR : BlkAt (((w1.setCell ⟨pb, 0, none⟩ (.string (mkS r1.bs))).setCell ⟨pb, 1, none⟩ (.int .i64 (r1.e : Nat))).setCell ⟨pb + 4, 0, none⟩ (.string (mkS t1))) (pb) 46 #[.string (mkS r1.bs), .int .i64 (r1.e : Nat)] := (((hR).set 0 (.string (mkS r1.bs))).set 1 (.int .i64 (r1.e : Nat))).fr (fr_set1 _ (pb + 4) 0 (.string (mkS t1))) (by unfold eqB; (have := HQ.out; omega))
    replace h4 : BlkAt (((w1.setCell ⟨pb, 0, none⟩ (.string (mkS r1.bs))).setCell ⟨pb, 1, none⟩ (.int .i64 (r1.e : Nat))).setCell ⟨pb + 4, 0, none⟩ (.string (mkS t1))) (pb + 1) 46 #[.string ⟨#[]⟩, .int .i64 0] := (((h4).fr (fr_set1 _ (pb) 0 (.string (mkS r1.bs))) (by unfold eqB; (have := HQ.out; omega))).fr (fr_set1 _ (pb) 1 (.int .i64 (r1.e : Nat))) (by unfold eqB; (have := HQ.out; omega))).fr (fr_set1 _ (pb + 4) 0 (.string (mkS t1))) (by unfold eqB; (have := HQ.out; omega))
    replace h5 : BlkAt (((w1.setCell ⟨pb, 0, none⟩ (.string (mkS r1.bs))).setCell ⟨pb, 1, none⟩ (.int .i64 (r1.e : Nat))).setCell ⟨pb + 4, 0, none⟩ (.string (mkS t1))) (pb + 2) 35 #[.string ⟨#[]⟩, .string ⟨#[]⟩, .string ⟨#[]⟩, .bool false, .slice none 0 0] := (((h5).fr (fr_set1 _ (pb) 0 (.string (mkS r1.bs))) (by unfold eqB; (have := HQ.out; omega))).fr (fr_set1 _ (pb) 1 (.int .i64 (r1.e : Nat))) (by unfold eqB; (have := HQ.out; omega))).fr (fr_set1 _ (pb + 4) 0 (.string (mkS t1))) (by unfold eqB; (have := HQ.out; omega))
    replace h6 : BlkAt (((w1.setCell ⟨pb, 0, none⟩ (.string (mkS r1.bs))).setCell ⟨pb, 1, none⟩ (.int .i64 (r1.e : Nat))).setCell ⟨pb + 4, 0, none⟩ (.string (mkS t1))) (pb + 3) 35 #[.string ⟨#[]⟩, .string ⟨#[]⟩, .string ⟨#[]⟩, .bool false, .slice none 0 0] := (((h6).fr (fr_set1 _ (pb) 0 (.string (mkS r1.bs))) (by unfold eqB; (have := HQ.out; omega))).fr (fr_set1 _ (pb) 1 (.int .i64 (r1.e : Nat))) (by unfold eqB; (have := HQ.out; omega))).fr (fr_set1 _ (pb + 4) 0 (.string (mkS t1))) (by unfold eqB; (have := HQ.out; omega))
    replace h7 : BlkAt (((w1.setCell ⟨pb, 0, none⟩ (.string (mkS r1.bs))).setCell ⟨pb, 1, none⟩ (.int .i64 (r1.e : Nat))).setCell ⟨pb + 4, 0, none⟩ (.string (mkS t1))) (pb + 4) 35 #[.string (mkS t1), .string ⟨#[]⟩, .string ⟨#[]⟩, .bool false, .slice none 0 0] := (((h7).fr (fr_set1 _ (pb) 0 (.string (mkS r1.bs))) (by unfold eqB; (have := HQ.out; omega))).fr (fr_set1 _ (pb) 1 (.int .i64 (r1.e : Nat))) (by unfold eqB; (have := HQ.out; omega))).set 0 (.string (mkS t1))
    replace F := (((F).trans (fr_set1 _ (pb) 0 (.string (mkS r1.bs))) (fun i hi h => by unfold eqB at h; (have := HQ.out; omega))).trans (fr_set1 _ (pb) 1 (.int .i64 (r1.e : Nat))) (fun i hi h => by unfold eqB at h; (have := HQ.out; omega))).trans (fr_set1 _ (pb + 4) 0 (.string (mkS t1))) (fun i hi h => by unfold eqB at h; (have := HQ.out; omega))
    go_upto_region 6 with fail
    generalize (((w1.setCell _ _).setCell _ _).setCell _ _) = v1 at *
    clear y0 y1 yf x0 x1 x2 x3 x4 xf xf0 yf0 yf1
    obtain ⟨y0, y1, yf⟩ := BlkAt.c2 hR
    go_wp2_with fail
    refine (c2 v1).mono ?_
    rintro e w2 ⟨rfl, g2⟩
    clear y0 y1 yf
    replace hR := hR.fr g2 id
    replace h4 := h4.fr g2 id
    replace h5 := h5.fr g2 id
    replace h6 := h6.fr g2 id
    replace h7 := h7.fr g2 id
    replace F := F.then' g2
    clear g2
    obtain ⟨y0, y1, yf⟩ := BlkAt.c2 hR
    obtain ⟨x0, x1, x2, x3, x4, xf⟩ := BlkAt.c5 h7
    have xf1 := xf 1
    have yf0 := yf 0
    have yf1 := yf 1
    replace hR : BlkAt (((w2.setCell ⟨pb, 0, none⟩ (.string (mkS r2.bs))).setCell ⟨pb, 1, none⟩ (.int .i64 (r2.e : Nat))).setCell ⟨pb + 4, 1, none⟩ (.string (mkS t2))) (pb) 46 #[.string (mkS r2.bs), .int .i64 (r2.e : Nat)] := (((hR).set 0 (.string (mkS r2.bs))).set 1 (.int .i64 (r2.e : Nat))).fr (fr_set1 _ (pb + 4) 1 (.string (mkS t2))) (by unfold eqB; (have := HQ.out; omega))
    replace h4 : BlkAt (((w2.setCell ⟨pb, 0, none⟩ (.string (mkS r2.bs))).setCell ⟨pb, 1, none⟩ (.int .i64 (r2.e : Nat))).setCell ⟨pb + 4, 1, none⟩ (.string (mkS t2))) (pb + 1) 46 #[.string ⟨#[]⟩, .int .i64 0] := (((h4).fr (fr_set1 _ (pb) 0 (.string (mkS r2.bs))) (by unfold eqB; (have := HQ.out; omega))).fr (fr_set1 _ (pb) 1 (.int .i64 (r2.e : Nat))) (by unfold eqB; (have := HQ.out; omega))).fr (fr_set1 _ (pb + 4) 1 (.string (mkS t2))) (by unfold eqB; (have := HQ.out; omega))
    replace h5 : BlkAt (((w2.setCell ⟨pb, 0, none⟩ (.string (mkS r2.bs))).setCell ⟨pb, 1, none⟩ (.int .i64 (r2.e : Nat))).setCell ⟨pb + 4, 1, none⟩ (.string (mkS t2))) (pb + 2) 35 #[.string ⟨#[]⟩, .string ⟨#[]⟩, .string ⟨#[]⟩, .bool false, .slice none 0 0] := (((h5).fr (fr_set1 _ (pb) 0 (.string (mkS r2.bs))) (by unfold eqB; (have := HQ.out; omega))).fr (fr_set1 _ (pb) 1 (.int .i64 (r2.e : Nat))) (by unfold eqB; (have := HQ.out; omega))).fr (fr_set1 _ (pb + 4) 1 (.string (mkS t2))) (by unfold eqB; (have := HQ.out; omega))
    replace h6 : BlkAt (((w2.setCell ⟨pb, 0, none⟩ (.string (mkS r2.bs))).setCell ⟨pb, 1, none⟩ (.int .i64 (r2.e : Nat))).setCell ⟨pb + 4, 1, none⟩ (.string (mkS t2))) (pb + 3) 35 #[.string ⟨#[]⟩, .string ⟨#[]⟩, .string ⟨#[]⟩, .bool false, .slice none 0 0] := (((h6).fr (fr_set1 _ (pb) 0 (.string (mkS r2.bs))) (by unfold eqB; (have := HQ.out; omega))).fr (fr_set1 _ (pb) 1 (.int .i64 (r2.e : Nat))) (by unfold eqB; (have := HQ.out; omega))).fr (fr_set1 _ (pb + 4) 1 (.string (mkS t2))) (by unfold eqB; (have := HQ.out; omega))
    replace h7 : BlkAt (((w2.setCell ⟨pb, 0, none⟩ (.string (mkS r2.bs))).setCell ⟨pb, 1, none⟩ (.int .i64 (r2.e : Nat))).setCell ⟨pb + 4, 1, none⟩ (.string (mkS t2))) (pb + 4) 35 #[.string (mkS t1), .string (mkS t2), .string ⟨#[]⟩, .bool false, .slice none 0 0] := (((h7).fr (fr_set1 _ (pb) 0 (.string (mkS r2.bs))) (by unfold eqB; (have := HQ.out; omega))).fr (fr_set1 _ (pb) 1 (.int .i64 (r2.e : Nat))) (by unfold eqB; (have := HQ.out; omega))).set 1 (.string (mkS t2))
    replace F := (((F).trans (fr_set1 _ (pb) 0 (.string (mkS r2.bs))) (fun i hi h => by unfold eqB at h; (have := HQ.out; omega))).trans (fr_set1 _ (pb) 1 (.int .i64 (r2.e : Nat))) (fun i hi h => by unfold eqB at h; (have := HQ.out; omega))).trans (fr_set1 _ (pb + 4) 1 (.string (mkS t2))) (fun i hi h => by unfold eqB at h; (have := HQ.out; omega))
    go_upto_region 11 with fail
    generalize (((w2.setCell _ _).setCell _ _).setCell _ _) = v2 at *
    clear y0 y1 yf x0 x1 x2 x3 x4 xf xf1 yf0 yf1
    generalize v2 = VV at *
    obtain ⟨u, hu⟩ : ∃ u : UsV, u = ⟨mkS t1, mkS t2, ⟨#[]⟩, false, []⟩ := ⟨_, rfl⟩
    rw [← hu] at HG
    have hgs : u.gs = [] := by rw [hu]
    obtain ⟨rr, A, n, c, HG, hR, h7, hrow, HN, hn, HAB⟩ : ∃ rr A n c, Hid (getU 1 r = (rFail rr (checkU 1 u), if (rFail rr (checkU 1 u)).e = 0 then u else zU)) ∧ BlkAt VV pb 46 #[.string (mkS rr.bs), .int .i64 (rr.e : Nat)] ∧ BlkAt VV (pb + 4) 35 #[.string u.name, .string u.hash, .string u.mail, .bool u.dis, .slice A n c] ∧ RowAt VV A (strs u.gs) ∧ Hid (u.gs.length = n) ∧ n ≤ 65535 ∧ Hid (∀ a, A = some a → pb + 4 < a.block) := ⟨r2, none, 0, 0, HG, hR, by rw [hu]; exact h7, by rw [hgs]; exact RowAt.nil _ _, by rw [hgs]; rfl, by omega, fun a e => by cases e⟩
    have hck := fun W f => checkR_calls W 1 u A n c f HN
    obtain ⟨k, hk⟩ : ∃ k, checkU 1 u = k := ⟨_, rfl⟩
    rw [hk] at HG hck
    obtain ⟨rf, hrf⟩ : ∃ x, rFail rr k = x := ⟨_, rfl⟩
    have hfl := fun W => failR_calls W rr k
    rw [hrf] at HG hfl
    unfold Rd.val at hfl
    clear hk hu hgs hrf
    have HQE := HQ.out
    apply wp_region_calm (R := Fr (eqB (pb))) (C := fun q W => Fr (eqB (pb)) VV W ∧ BlkAt W (pb + 1) 46 #[.string ⟨#[]⟩, .int .i64 0] ∧ BlkAt W (pb + 2) 35 #[.string ⟨#[]⟩, .string ⟨#[]⟩, .string ⟨#[]⟩, .bool false, .slice none 0 0] ∧ BlkAt W (pb + 3) 35 #[.string ⟨#[]⟩, .string ⟨#[]⟩, .string ⟨#[]⟩, .bool false, .slice none 0 0] ∧ BlkAt W (pb + 4) 35 #[.string u.name, .string u.hash, .string u.mail, .bool u.dis, .slice A n c] ∧ BlkAt W (pb) 46 (if q = 0 then #[.string (mkS rr.bs), .int .i64 (rr.e : Nat)] else if q = 1 then #[.string (mkS rr.bs), .int .i64 (rr.e : Nat)] else #[.string (mkS rf.bs), .int .i64 (rf.e : Nat)])) [true, false, false, false, false, true]
      [eqv _, eqv _, eqv _, eqv _, eqv _, anyv]
      (by kernel_rfl) (by kernel_rfl) (fun _ _ _ h1 h2 => h1.then' h2) ((Fr.refl _ _).drew) ⟨(Fr.refl _ _).drew, h4, h5, h6, h7, hR⟩ (by kernel_rfl)
    · refine ⟨?_, ?_, ?_, ?_, ?_, ?_, trivial⟩
      · rw [if_pos (by decide)]
        intro a W K hC hd hK
        replace hC : (fun q W => Fr (eqB (pb)) VV W ∧ BlkAt W (pb + 1) 46 #[.string ⟨#[]⟩, .int .i64 0] ∧ BlkAt W (pb + 2) 35 #[.string ⟨#[]⟩, .string ⟨#[]⟩, .string ⟨#[]⟩, .bool false, .slice none 0 0] ∧ BlkAt W (pb + 3) 35 #[.string ⟨#[]⟩, .string ⟨#[]⟩, .string ⟨#[]⟩, .bool false, .slice none 0 0] ∧ BlkAt W (pb + 4) 35 #[.string u.name, .string u.hash, .string u.mail, .bool u.dis, .slice A n c] ∧ BlkAt W (pb) 46 (if q = 0 then #[.string (mkS rr.bs), .int .i64 (rr.e : Nat)] else if q = 1 then #[.string (mkS rr.bs), .int .i64 (rr.e : Nat)] else #[.string (mkS rf.bs), .int .i64 (rf.e : Nat)])) 0 W := hC
        have d2 : a.tmps[2]?.getD undef = .pointer (some ⟨pb, 0, none⟩) := hd 2 (by decide)
        refine wpOp_plain rfl rfl ?_
        obtain ⟨x0_0, x0_1, z0⟩ := BlkAt.c2 (hC.2.1)
        obtain ⟨x1_0, x1_1, x1_2, x1_3, x1_4, z1⟩ := BlkAt.c5 (hC.2.2.1)
        obtain ⟨x2_0, x2_1, x2_2, x2_3, x2_4, z2⟩ := BlkAt.c5 (hC.2.2.2.1)
        obtain ⟨x3_0, x3_1, x3_2, x3_3, x3_4, z3⟩ := BlkAt.c5 (hC.2.2.2.2.1)
        have hz0 : BlkAt W (pb) 46 #[.string (mkS rr.bs), .int .i64 (rr.e : Nat)] := hC.2.2.2.2.2
        obtain ⟨b0_0, b0_1, zz0⟩ := BlkAt.c2 hz0
        have fs : Fr (eqB (pb)) W W := (Fr.refl (eqB (pb)) W)
        have hn0 : BlkAt W (pb) 46 #[.string (mkS rr.bs), .int .i64 (rr.e : Nat)] := hz0
        go_wp2_with fail
        exact hK _ _ (Fr.refl _ _) ⟨hC.1, hC.2.1, hC.2.2.1, hC.2.2.2.1, hC.2.2.2.2.1, hn0⟩ rfl
      · rw [if_neg (by decide)]; intro kq
        exact calm_mv 1 rfl rfl (Or.inl rfl) (Fr.refl _) (by decide) fun v w hd => hd
      · rw [if_neg (by decide)]; intro kq
        intro a W K hC hd hK
        have d7 : a.tmps[7]?.getD undef = .pointer (some ⟨pb + 4, 0, none⟩) := hd 7 (by decide)
        refine wpOp_plain rfl rfl ?_
        obtain ⟨x0_0, x0_1, z0⟩ := BlkAt.c2 (hC.2.1)
        obtain ⟨x1_0, x1_1, x1_2, x1_3, x1_4, z1⟩ := BlkAt.c5 (hC.2.2.1)
        obtain ⟨x2_0, x2_1, x2_2, x2_3, x2_4, z2⟩ := BlkAt.c5 (hC.2.2.2.1)
        obtain ⟨x3_0, x3_1, x3_2, x3_3, x3_4, z3⟩ := BlkAt.c5 (hC.2.2.2.2.1)
        go_wp2_with fail
        exact hK _ _ (Fr.refl _ _) hC rfl
      · rw [if_neg (by decide)]; intro kq
        intro a W K hC hd hK
        have d52 : _ = _ := hd 52 (by decide)
        have d53 : _ = _ := hd 53 (by decide)
        refine wpOp_plain rfl rfl ?_
        obtain ⟨x0_0, x0_1, z0⟩ := BlkAt.c2 (hC.2.1)
        obtain ⟨x1_0, x1_1, x1_2, x1_3, x1_4, z1⟩ := BlkAt.c5 (hC.2.2.1)
        obtain ⟨x2_0, x2_1, x2_2, x2_3, x2_4, z2⟩ := BlkAt.c5 (hC.2.2.2.1)
        obtain ⟨x3_0, x3_1, x3_2, x3_3, x3_4, z3⟩ := BlkAt.c5 (hC.2.2.2.2.1)
        go_wp2_with fail
        refine (hck W (hrow.fr hC.1 (fun a e _ _ h => by have := HAB.out a e; unfold eqB at h; omega))).mono ?_
        rintro e9 w9a ⟨rfl, f9⟩
        exact hK _ _ (f9.mono fun _ _ h => h.elim) ⟨hC.1.then' (f9.mono fun _ _ h => h.elim), hC.2.1.fr f9 id, hC.2.2.1.fr f9 id, hC.2.2.2.1.fr f9 id, hC.2.2.2.2.1.fr f9 id, hC.2.2.2.2.2.fr f9 id⟩ rfl
      · rw [if_neg (by decide)]; intro kq
        intro a W K hC hd hK
        have d51 : _ = _ := hd 51 (by decide)
        have d54 : _ = _ := hd 54 (by decide)
        refine wpOp_plain rfl rfl ?_
        obtain ⟨x0_0, x0_1, z0⟩ := BlkAt.c2 (hC.2.1)
        obtain ⟨x1_0, x1_1, x1_2, x1_3, x1_4, z1⟩ := BlkAt.c5 (hC.2.2.1)
        obtain ⟨x2_0, x2_1, x2_2, x2_3, x2_4, z2⟩ := BlkAt.c5 (hC.2.2.2.1)
        obtain ⟨x3_0, x3_1, x3_2, x3_3, x3_4, z3⟩ := BlkAt.c5 (hC.2.2.2.2.1)
        go_wp2_with fail
        refine (hfl W).mono ?_
        rintro e9 w9a ⟨rfl, f9⟩
        exact hK _ _ (f9.mono fun _ _ h => h.elim) ⟨hC.1.then' (f9.mono fun _ _ h => h.elim), hC.2.1.fr f9 id, hC.2.2.1.fr f9 id, hC.2.2.2.1.fr f9 id, hC.2.2.2.2.1.fr f9 id, hC.2.2.2.2.2.fr f9 id⟩ rfl
      · rw [if_pos (by decide)]
        intro a W K hC hd hK
        replace hC : (fun q W => Fr (eqB (pb)) VV W ∧ BlkAt W (pb + 1) 46 #[.string ⟨#[]⟩, .int .i64 0] ∧ BlkAt W (pb + 2) 35 #[.string ⟨#[]⟩, .string ⟨#[]⟩, .string ⟨#[]⟩, .bool false, .slice none 0 0] ∧ BlkAt W (pb + 3) 35 #[.string ⟨#[]⟩, .string ⟨#[]⟩, .string ⟨#[]⟩, .bool false, .slice none 0 0] ∧ BlkAt W (pb + 4) 35 #[.string u.name, .string u.hash, .string u.mail, .bool u.dis, .slice A n c] ∧ BlkAt W (pb) 46 (if q = 0 then #[.string (mkS rr.bs), .int .i64 (rr.e : Nat)] else if q = 1 then #[.string (mkS rr.bs), .int .i64 (rr.e : Nat)] else #[.string (mkS rf.bs), .int .i64 (rf.e : Nat)])) 1 W := hC
        have d2 : a.tmps[2]?.getD undef = .pointer (some ⟨pb, 0, none⟩) := hd 2 (by decide)
        have d55 : _ = _ := hd 55 (by decide)
        refine wpOp_plain rfl rfl ?_
        obtain ⟨x0_0, x0_1, z0⟩ := BlkAt.c2 (hC.2.1)
        obtain ⟨x1_0, x1_1, x1_2, x1_3, x1_4, z1⟩ := BlkAt.c5 (hC.2.2.1)
        obtain ⟨x2_0, x2_1, x2_2, x2_3, x2_4, z2⟩ := BlkAt.c5 (hC.2.2.2.1)
        obtain ⟨x3_0, x3_1, x3_2, x3_3, x3_4, z3⟩ := BlkAt.c5 (hC.2.2.2.2.1)
        have hz0 : BlkAt W (pb) 46 #[.string (mkS rr.bs), .int .i64 (rr.e : Nat)] := hC.2.2.2.2.2
        obtain ⟨b0_0, b0_1, zz0⟩ := BlkAt.c2 hz0
        have fs : Fr (eqB (pb)) W ((W.setCell ⟨pb, 0, none⟩ (.string (mkS rf.bs))).setCell ⟨pb, 1, none⟩ (.int .i64 (rf.e : Nat))) := (((Fr.refl (eqB (pb)) W)).setCell (p := ⟨pb, 0, none⟩) (Or.inl rfl) (.string (mkS rf.bs))).setCell (p := ⟨pb, 1, none⟩) (Or.inl rfl) (.int .i64 (rf.e : Nat))
        have hn0 : BlkAt ((W.setCell ⟨pb, 0, none⟩ (.string (mkS rf.bs))).setCell ⟨pb, 1, none⟩ (.int .i64 (rf.e : Nat))) (pb) 46 #[.string (mkS rf.bs), .int .i64 (rf.e : Nat)] := ((hz0).set 0 (.string (mkS rf.bs))).set 1 (.int .i64 (rf.e : Nat))
        go_wp2_with fail
        exact hK undef _ fs ⟨hC.1.then' fs, (hC.2.1).fr fs (by unfold eqB; omega), (hC.2.2.1).fr fs (by unfold eqB; omega), (hC.2.2.2.1).fr fs (by unfold eqB; omega), (hC.2.2.2.2.1).fr fs (by unfold eqB; omega), hn0⟩ trivial
    · intro vs w9 fw9 cw9 hV
      have v51 : vs 0 = _ := hV 0 _ _ rfl rfl (by decide)
      have v52 : vs 1 = _ := hV 1 _ _ rfl rfl (by decide)
      have v53 : vs 2 = _ := hV 2 _ _ rfl rfl (by decide)
      have v54 : vs 3 = _ := hV 3 _ _ rfl rfl (by decide)
      have v55 : vs 4 = _ := hV 4 _ _ rfl rfl (by decide)
      clear hV
      replace h4 : BlkAt w9 (pb + 1) 46 #[.string ⟨#[]⟩, .int .i64 0] := cw9.2.1
      replace h5 : BlkAt w9 (pb + 2) 35 #[.string ⟨#[]⟩, .string ⟨#[]⟩, .string ⟨#[]⟩, .bool false, .slice none 0 0] := cw9.2.2.1
      replace h6 : BlkAt w9 (pb + 3) 35 #[.string ⟨#[]⟩, .string ⟨#[]⟩, .string ⟨#[]⟩, .bool false, .slice none 0 0] := cw9.2.2.2.1
      replace h7 : BlkAt w9 (pb + 4) 35 #[.string u.name, .string u.hash, .string u.mail, .bool u.dis, .slice A n c] := cw9.2.2.2.2.1
      replace hR : BlkAt w9 (pb) 46 #[.string (mkS rf.bs), .int .i64 (rf.e : Nat)] := cw9.2.2.2.2.2
      replace F := F.trans fw9 (fun i hi h => by unfold eqB at h; omega)
      clear cw9
      simp only [putL, Act.put, Nat.reduceAdd, List.setIfInBounds_toArray, List.set_cons_zero, List.set_cons_succ, v51, v52, v53, v54, v55]
      replace hrow := hrow.fr fw9 (fun a e _ _ h => by have := HAB.out a e; unfold eqB at h; omega)
      clear hck hfl fw9
      obtain ⟨y0, y1, yf⟩ := BlkAt.c2 hR
      obtain ⟨b, hb⟩ : ∃ b, ((rf.e : Int) != 0) = b := ⟨_, rfl⟩
      cases b
      · have he : rf.e = 0 := by have := bne_eq_false_iff_eq.mp hb; omega
        rw [if_pos he] at HG
        clear he
        go_wp2_with fail
        clear y0 y1 yf
        apply wp_region_calm (R := Fr (fun k => k = pb + 1 ∨ k = pb + 2)) (C := fun q W => Fr (fun k => k = pb + 1 ∨ k = pb + 2) w9 W ∧ BlkAt W (pb) 46 #[.string (mkS rf.bs), .int .i64 (rf.e : Nat)] ∧ BlkAt W (pb + 4) 35 #[.string u.name, .string u.hash, .string u.mail, .bool u.dis, .slice A n c] ∧ BlkAt W (pb + 1) 46 (if q = 0 then #[.string ⟨#[]⟩, .int .i64 0] else if q = 1 then #[.string (mkS rf.bs), .int .i64 (rf.e : Nat)] else #[.string (mkS rf.bs), .int .i64 (rf.e : Nat)]) ∧ BlkAt W (pb + 2) 35 (if q = 0 then #[.string ⟨#[]⟩, .string ⟨#[]⟩, .string ⟨#[]⟩, .bool false, .slice none 0 0] else if q = 1 then #[.string ⟨#[]⟩, .string ⟨#[]⟩, .string ⟨#[]⟩, .bool false, .slice none 0 0] else #[.string u.name, .string u.hash, .string u.mail, .bool u.dis, .slice A n c])) [false, false, true, true]
          [eqv _, eqv _, anyv, anyv]
          (by kernel_rfl) (by kernel_rfl) (fun _ _ _ h1 h2 => h1.then' h2) ((Fr.refl _ _).drew) ⟨(Fr.refl _ _).drew, hR, h7, h4, h5⟩ (by kernel_rfl)
        · refine ⟨?_, ?_, ?_, ?_, trivial⟩
          · rw [if_neg (by decide)]; intro kq
            intro a W K hC hd hK
            have d2 : a.tmps[2]?.getD undef = .pointer (some ⟨pb, 0, none⟩) := hd 2 (by decide)
            refine wpOp_plain rfl rfl ?_
            obtain ⟨x0_0, x0_1, z0⟩ := BlkAt.c2 (hC.2.1)
            obtain ⟨x1_0, x1_1, x1_2, x1_3, x1_4, z1⟩ := BlkAt.c5 (hC.2.2.1)
            go_wp2_with fail
            exact hK _ _ (Fr.refl _ _) hC rfl
          · rw [if_neg (by decide)]; intro kq
            intro a W K hC hd hK
            have d7 : a.tmps[7]?.getD undef = .pointer (some ⟨pb + 4, 0, none⟩) := hd 7 (by decide)
            refine wpOp_plain rfl rfl ?_
            obtain ⟨x0_0, x0_1, z0⟩ := BlkAt.c2 (hC.2.1)
            obtain ⟨x1_0, x1_1, x1_2, x1_3, x1_4, z1⟩ := BlkAt.c5 (hC.2.2.1)
            go_wp2_with fail
            exact hK _ _ (Fr.refl _ _) hC rfl
          · rw [if_pos (by decide)]
            intro a W K hC hd hK
            replace hC : (fun q W => Fr (fun k => k = pb + 1 ∨ k = pb + 2) w9 W ∧ BlkAt W (pb) 46 #[.string (mkS rf.bs), .int .i64 (rf.e : Nat)] ∧ BlkAt W (pb + 4) 35 #[.string u.name, .string u.hash, .string u.mail, .bool u.dis, .slice A n c] ∧ BlkAt W (pb + 1) 46 (if q = 0 then #[.string ⟨#[]⟩, .int .i64 0] else if q = 1 then #[.string (mkS rf.bs), .int .i64 (rf.e : Nat)] else #[.string (mkS rf.bs), .int .i64 (rf.e : Nat)]) ∧ BlkAt W (pb + 2) 35 (if q = 0 then #[.string ⟨#[]⟩, .string ⟨#[]⟩, .string ⟨#[]⟩, .bool false, .slice none 0 0] else if q = 1 then #[.string ⟨#[]⟩, .string ⟨#[]⟩, .string ⟨#[]⟩, .bool false, .slice none 0 0] else #[.string u.name, .string u.hash, .string u.mail, .bool u.dis, .slice A n c])) 0 W := hC
            have d4 : a.tmps[4]?.getD undef = .pointer (some ⟨pb + 1, 0, none⟩) := hd 4 (by decide)
            have d61 : _ = _ := hd 61 (by decide)
            refine wpOp_plain rfl rfl ?_
            obtain ⟨x0_0, x0_1, z0⟩ := BlkAt.c2 (hC.2.1)
            obtain ⟨x1_0, x1_1, x1_2, x1_3, x1_4, z1⟩ := BlkAt.c5 (hC.2.2.1)
            have hz0 : BlkAt W (pb + 1) 46 #[.string ⟨#[]⟩, .int .i64 0] := hC.2.2.2.1
            obtain ⟨b0_0, b0_1, zz0⟩ := BlkAt.c2 hz0
            have hz1 : BlkAt W (pb + 2) 35 #[.string ⟨#[]⟩, .string ⟨#[]⟩, .string ⟨#[]⟩, .bool false, .slice none 0 0] := hC.2.2.2.2
            obtain ⟨b1_0, b1_1, b1_2, b1_3, b1_4, zz1⟩ := BlkAt.c5 hz1
            have fs : Fr (fun k => k = pb + 1 ∨ k = pb + 2) W ((W.setCell ⟨pb + 1, 0, none⟩ (.string (mkS rf.bs))).setCell ⟨pb + 1, 1, none⟩ (.int .i64 (rf.e : Nat))) := (((Fr.refl (fun k => k = pb + 1 ∨ k = pb + 2) W)).setCell (p := ⟨pb + 1, 0, none⟩) (Or.inl (by simp)) (.string (mkS rf.bs))).setCell (p := ⟨pb + 1, 1, none⟩) (Or.inl (by simp)) (.int .i64 (rf.e : Nat))
            have hn0 : BlkAt ((W.setCell ⟨pb + 1, 0, none⟩ (.string (mkS rf.bs))).setCell ⟨pb + 1, 1, none⟩ (.int .i64 (rf.e : Nat))) (pb + 1) 46 #[.string (mkS rf.bs), .int .i64 (rf.e : Nat)] := ((hz0).set 0 (.string (mkS rf.bs))).set 1 (.int .i64 (rf.e : Nat))
            have hn1 : BlkAt ((W.setCell ⟨pb + 1, 0, none⟩ (.string (mkS rf.bs))).setCell ⟨pb + 1, 1, none⟩ (.int .i64 (rf.e : Nat))) (pb + 2) 35 #[.string ⟨#[]⟩, .string ⟨#[]⟩, .string ⟨#[]⟩, .bool false, .slice none 0 0] := ((hz1).fr (fr_set1 _ (pb + 1) 0 (.string (mkS rf.bs))) (by unfold eqB; omega)).fr (fr_set1 _ (pb + 1) 1 (.int .i64 (rf.e : Nat))) (by unfold eqB; omega)
            go_wp2_with fail
            exact hK undef _ fs ⟨hC.1.then' fs, (hC.2.1).fr fs (by omega), (hC.2.2.1).fr fs (by omega), hn0, hn1⟩ trivial
          · rw [if_pos (by decide)]
            intro a W K hC hd hK
            replace hC : (fun q W => Fr (fun k => k = pb + 1 ∨ k = pb + 2) w9 W ∧ BlkAt W (pb) 46 #[.string (mkS rf.bs), .int .i64 (rf.e : Nat)] ∧ BlkAt W (pb + 4) 35 #[.string u.name, .string u.hash, .string u.mail, .bool u.dis, .slice A n c] ∧ BlkAt W (pb + 1) 46 (if q = 0 then #[.string ⟨#[]⟩, .int .i64 0] else if q = 1 then #[.string (mkS rf.bs), .int .i64 (rf.e : Nat)] else #[.string (mkS rf.bs), .int .i64 (rf.e : Nat)]) ∧ BlkAt W (pb + 2) 35 (if q = 0 then #[.string ⟨#[]⟩, .string ⟨#[]⟩, .string ⟨#[]⟩, .bool false, .slice none 0 0] else if q = 1 then #[.string ⟨#[]⟩, .string ⟨#[]⟩, .string ⟨#[]⟩, .bool false, .slice none 0 0] else #[.string u.name, .string u.hash, .string u.mail, .bool u.dis, .slice A n c])) 1 W := hC
            have d5 : a.tmps[5]?.getD undef = .pointer (some ⟨pb + 2, 0, none⟩) := hd 5 (by decide)
            have d62 : _ = _ := hd 62 (by decide)
            refine wpOp_plain rfl rfl ?_
            obtain ⟨x0_0, x0_1, z0⟩ := BlkAt.c2 (hC.2.1)
            obtain ⟨x1_0, x1_1, x1_2, x1_3, x1_4, z1⟩ := BlkAt.c5 (hC.2.2.1)
            have hz0 : BlkAt W (pb + 1) 46 #[.string (mkS rf.bs), .int .i64 (rf.e : Nat)] := hC.2.2.2.1
            obtain ⟨b0_0, b0_1, zz0⟩ := BlkAt.c2 hz0
            have hz1 : BlkAt W (pb + 2) 35 #[.string ⟨#[]⟩, .string ⟨#[]⟩, .string ⟨#[]⟩, .bool false, .slice none 0 0] := hC.2.2.2.2
            obtain ⟨b1_0, b1_1, b1_2, b1_3, b1_4, zz1⟩ := BlkAt.c5 hz1
            have fs : Fr (fun k => k = pb + 1 ∨ k = pb + 2) W (((((W.setCell ⟨pb + 2, 0, none⟩ (.string u.name)).setCell ⟨pb + 2, 1, none⟩ (.string u.hash)).setCell ⟨pb + 2, 2, none⟩ (.string u.mail)).setCell ⟨pb + 2, 3, none⟩ (.bool u.dis)).setCell ⟨pb + 2, 4, none⟩ (.slice A n c)) := ((((((Fr.refl (fun k => k = pb + 1 ∨ k = pb + 2) W)).setCell (p := ⟨pb + 2, 0, none⟩) (Or.inl (by simp)) (.string u.name)).setCell (p := ⟨pb + 2, 1, none⟩) (Or.inl (by simp)) (.string u.hash)).setCell (p := ⟨pb + 2, 2, none⟩) (Or.inl (by simp)) (.string u.mail)).setCell (p := ⟨pb + 2, 3, none⟩) (Or.inl (by simp)) (.bool u.dis)).setCell (p := ⟨pb + 2, 4, none⟩) (Or.inl (by simp)) (.slice A n c)
            have hn0 : BlkAt (((((W.setCell ⟨pb + 2, 0, none⟩ (.string u.name)).setCell ⟨pb + 2, 1, none⟩ (.string u.hash)).setCell ⟨pb + 2, 2, none⟩ (.string u.mail)).setCell ⟨pb + 2, 3, none⟩ (.bool u.dis)).setCell ⟨pb + 2, 4, none⟩ (.slice A n c)) (pb + 1) 46 #[.string (mkS rf.bs), .int .i64 (rf.e : Nat)] := (((((hz0).fr (fr_set1 _ (pb + 2) 0 (.string u.name)) (by unfold eqB; omega)).fr (fr_set1 _ (pb + 2) 1 (.string u.hash)) (by unfold eqB; omega)).fr (fr_set1 _ (pb + 2) 2 (.string u.mail)) (by unfold eqB; omega)).fr (fr_set1 _ (pb + 2) 3 (.bool u.dis)) (by unfold eqB; omega)).fr (fr_set1 _ (pb + 2) 4 (.slice A n c)) (by unfold eqB; omega)
            have hn1 : BlkAt (((((W.setCell ⟨pb + 2, 0, none⟩ (.string u.name)).setCell ⟨pb + 2, 1, none⟩ (.string u.hash)).setCell ⟨pb + 2, 2, none⟩ (.string u.mail)).setCell ⟨pb + 2, 3, none⟩ (.bool u.dis)).setCell ⟨pb + 2, 4, none⟩ (.slice A n c)) (pb + 2) 35 #[.string u.name, .string u.hash, .string u.mail, .bool u.dis, .slice A n c] := (((((hz1).set 0 (.string u.name)).set 1 (.string u.hash)).set 2 (.string u.mail)).set 3 (.bool u.dis)).set 4 (.slice A n c)
            go_wp2_with fail
            exact hK undef _ fs ⟨hC.1.then' fs, (hC.2.1).fr fs (by omega), (hC.2.2.1).fr fs (by omega), hn0, hn1⟩ trivial
        · intro vs w8 fw8 cw8 hV
          have v61 : vs 0 = _ := hV 0 _ _ rfl rfl (by decide)
          have v62 : vs 1 = _ := hV 1 _ _ rfl rfl (by decide)
          clear hV
          replace hR : BlkAt w8 (pb) 46 #[.string (mkS rf.bs), .int .i64 (rf.e : Nat)] := cw8.2.1
          replace h7 : BlkAt w8 (pb + 4) 35 #[.string u.name, .string u.hash, .string u.mail, .bool u.dis, .slice A n c] := cw8.2.2.1
          replace h4 : BlkAt w8 (pb + 1) 46 #[.string (mkS rf.bs), .int .i64 (rf.e : Nat)] := cw8.2.2.2.1
          replace h5 : BlkAt w8 (pb + 2) 35 #[.string u.name, .string u.hash, .string u.mail, .bool u.dis, .slice A n c] := cw8.2.2.2.2
          replace F := F.trans fw8 (fun i hi h => by omega)
          clear cw8
          simp only [putL, Act.put, Nat.reduceAdd, List.setIfInBounds_toArray, List.set_cons_zero, List.set_cons_succ, v61, v62]
          go_wp2_with fail
          refine bodyPost_ret (v := .tuple #[.agg #[.string (mkS rf.bs), .int .i64 (rf.e : Nat)], .agg #[.string u.name, .string u.hash, .string u.mail, .bool u.dis, .slice A n c]]) (results_cc hres.out rfl rfl (load_blk h4 Tryd.underlying46 rfl (by kernel_rfl)) (load_blk h5 Tryd.underlying35 rfl (by kernel_rfl))) rfl ?_
          rw [HG.out]
          exact ⟨A, n, c, rfl, HN, hn, hrow.fr fw8 (fun a e _ _ h => by have := HAB.out a e; omega), F⟩
      · have he : rf.e ≠ 0 := fun h => by rw [h] at hb; simp at hb
        rw [if_neg he] at HG
        clear he
        go_wp2_with fail
        clear y0 y1 yf
        apply wp_region_calm (R := Fr (fun k => k = pb + 1 ∨ k = pb + 2)) (C := fun q W => Fr (fun k => k = pb + 1 ∨ k = pb + 2) w9 W ∧ BlkAt W (pb) 46 #[.string (mkS rf.bs), .int .i64 (rf.e : Nat)] ∧ BlkAt W (pb + 3) 35 #[.string ⟨#[]⟩, .string ⟨#[]⟩, .string ⟨#[]⟩, .bool false, .slice none 0 0] ∧ BlkAt W (pb + 1) 46 (if q = 0 then #[.string ⟨#[]⟩, .int .i64 0] else if q = 1 then #[.string (mkS rf.bs), .int .i64 (rf.e : Nat)] else #[.string (mkS rf.bs), .int .i64 (rf.e : Nat)]) ∧ BlkAt W (pb + 2) 35 (if q = 0 then #[.string ⟨#[]⟩, .string ⟨#[]⟩, .string ⟨#[]⟩, .bool false, .slice none 0 0] else if q = 1 then #[.string ⟨#[]⟩, .string ⟨#[]⟩, .string ⟨#[]⟩, .bool false, .slice none 0 0] else #[.string ⟨#[]⟩, .string ⟨#[]⟩, .string ⟨#[]⟩, .bool false, .slice none 0 0])) [false, false, true, true]
          [eqv _, eqv _, anyv, anyv]
          (by kernel_rfl) (by kernel_rfl) (fun _ _ _ h1 h2 => h1.then' h2) ((Fr.refl _ _).drew) ⟨(Fr.refl _ _).drew, hR, h6, h4, h5⟩ (by kernel_rfl)
        · refine ⟨?_, ?_, ?_, ?_, trivial⟩
          · rw [if_neg (by decide)]; intro kq
            intro a W K hC hd hK
            have d2 : a.tmps[2]?.getD undef = .pointer (some ⟨pb, 0, none⟩) := hd 2 (by decide)
            refine wpOp_plain rfl rfl ?_
            obtain ⟨x0_0, x0_1, z0⟩ := BlkAt.c2 (hC.2.1)
            obtain ⟨x1_0, x1_1, x1_2, x1_3, x1_4, z1⟩ := BlkAt.c5 (hC.2.2.1)
            go_wp2_with fail
            exact hK _ _ (Fr.refl _ _) hC rfl
          · rw [if_neg (by decide)]; intro kq
            intro a W K hC hd hK
            have d6 : a.tmps[6]?.getD undef = .pointer (some ⟨pb + 3, 0, none⟩) := hd 6 (by decide)
            refine wpOp_plain rfl rfl ?_
            obtain ⟨x0_0, x0_1, z0⟩ := BlkAt.c2 (hC.2.1)
            obtain ⟨x1_0, x1_1, x1_2, x1_3, x1_4, z1⟩ := BlkAt.c5 (hC.2.2.1)
            go_wp2_with fail
            exact hK _ _ (Fr.refl _ _) hC rfl
          · rw [if_pos (by decide)]
            intro a W K hC hd hK
            replace hC : (fun q W => Fr (fun k => k = pb + 1 ∨ k = pb + 2) w9 W ∧ BlkAt W (pb) 46 #[.string (mkS rf.bs), .int .i64 (rf.e : Nat)] ∧ BlkAt W (pb + 3) 35 #[.string ⟨#[]⟩, .string ⟨#[]⟩, .string ⟨#[]⟩, .bool false, .slice none 0 0] ∧ BlkAt W (pb + 1) 46 (if q = 0 then #[.string ⟨#[]⟩, .int .i64 0] else if q = 1 then #[.string (mkS rf.bs), .int .i64 (rf.e : Nat)] else #[.string (mkS rf.bs), .int .i64 (rf.e : Nat)]) ∧ BlkAt W (pb + 2) 35 (if q = 0 then #[.string ⟨#[]⟩, .string ⟨#[]⟩, .string ⟨#[]⟩, .bool false, .slice none 0 0] else if q = 1 then #[.string ⟨#[]⟩, .string ⟨#[]⟩, .string ⟨#[]⟩, .bool false, .slice none 0 0] else #[.string ⟨#[]⟩, .string ⟨#[]⟩, .string ⟨#[]⟩, .bool false, .slice none 0 0])) 0 W := hC
            have d4 : a.tmps[4]?.getD undef = .pointer (some ⟨pb + 1, 0, none⟩) := hd 4 (by decide)
            have d59 : _ = _ := hd 59 (by decide)
            refine wpOp_plain rfl rfl ?_
            obtain ⟨x0_0, x0_1, z0⟩ := BlkAt.c2 (hC.2.1)
            obtain ⟨x1_0, x1_1, x1_2, x1_3, x1_4, z1⟩ := BlkAt.c5 (hC.2.2.1)
            have hz0 : BlkAt W (pb + 1) 46 #[.string ⟨#[]⟩, .int .i64 0] := hC.2.2.2.1
            obtain ⟨b0_0, b0_1, zz0⟩ := BlkAt.c2 hz0
            have hz1 : BlkAt W (pb + 2) 35 #[.string ⟨#[]⟩, .string ⟨#[]⟩, .string ⟨#[]⟩, .bool false, .slice none 0 0] := hC.2.2.2.2
            obtain ⟨b1_0, b1_1, b1_2, b1_3, b1_4, zz1⟩ := BlkAt.c5 hz1
            have fs : Fr (fun k => k = pb + 1 ∨ k = pb + 2) W ((W.setCell ⟨pb + 1, 0, none⟩ (.string (mkS rf.bs))).setCell ⟨pb + 1, 1, none⟩ (.int .i64 (rf.e : Nat))) := (((Fr.refl (fun k => k = pb + 1 ∨ k = pb + 2) W)).setCell (p := ⟨pb + 1, 0, none⟩) (Or.inl (by simp)) (.string (mkS rf.bs))).setCell (p := ⟨pb + 1, 1, none⟩) (Or.inl (by simp)) (.int .i64 (rf.e : Nat))
            have hn0 : BlkAt ((W.setCell ⟨pb + 1, 0, none⟩ (.string (mkS rf.bs))).setCell ⟨pb + 1, 1, none⟩ (.int .i64 (rf.e : Nat))) (pb + 1) 46 #[.string (mkS rf.bs), .int .i64 (rf.e : Nat)] := ((hz0).set 0 (.string (mkS rf.bs))).set 1 (.int .i64 (rf.e : Nat))
            have hn1 : BlkAt ((W.setCell ⟨pb + 1, 0, none⟩ (.string (mkS rf.bs))).setCell ⟨pb + 1, 1, none⟩ (.int .i64 (rf.e : Nat))) (pb + 2) 35 #[.string ⟨#[]⟩, .string ⟨#[]⟩, .string ⟨#[]⟩, .bool false, .slice none 0 0] := ((hz1).fr (fr_set1 _ (pb + 1) 0 (.string (mkS rf.bs))) (by unfold eqB; omega)).fr (fr_set1 _ (pb + 1) 1 (.int .i64 (rf.e : Nat))) (by unfold eqB; omega)
            go_wp2_with fail
            exact hK undef _ fs ⟨hC.1.then' fs, (hC.2.1).fr fs (by omega), (hC.2.2.1).fr fs (by omega), hn0, hn1⟩ trivial
          · rw [if_pos (by decide)]
            intro a W K hC hd hK
            replace hC : (fun q W => Fr (fun k => k = pb + 1 ∨ k = pb + 2) w9 W ∧ BlkAt W (pb) 46 #[.string (mkS rf.bs), .int .i64 (rf.e : Nat)] ∧ BlkAt W (pb + 3) 35 #[.string ⟨#[]⟩, .string ⟨#[]⟩, .string ⟨#[]⟩, .bool false, .slice none 0 0] ∧ BlkAt W (pb + 1) 46 (if q = 0 then #[.string ⟨#[]⟩, .int .i64 0] else if q = 1 then #[.string (mkS rf.bs), .int .i64 (rf.e : Nat)] else #[.string (mkS rf.bs), .int .i64 (rf.e : Nat)]) ∧ BlkAt W (pb + 2) 35 (if q = 0 then #[.string ⟨#[]⟩, .string ⟨#[]⟩, .string ⟨#[]⟩, .bool false, .slice none 0 0] else if q = 1 then #[.string ⟨#[]⟩, .string ⟨#[]⟩, .string ⟨#[]⟩, .bool false, .slice none 0 0] else #[.string ⟨#[]⟩, .string ⟨#[]⟩, .string ⟨#[]⟩, .bool false, .slice none 0 0])) 1 W := hC
            have d5 : a.tmps[5]?.getD undef = .pointer (some ⟨pb + 2, 0, none⟩) := hd 5 (by decide)
            have d60 : _ = _ := hd 60 (by decide)
            refine wpOp_plain rfl rfl ?_
            obtain ⟨x0_0, x0_1, z0⟩ := BlkAt.c2 (hC.2.1)
            obtain ⟨x1_0, x1_1, x1_2, x1_3, x1_4, z1⟩ := BlkAt.c5 (hC.2.2.1)
            have hz0 : BlkAt W (pb + 1) 46 #[.string (mkS rf.bs), .int .i64 (rf.e : Nat)] := hC.2.2.2.1
            obtain ⟨b0_0, b0_1, zz0⟩ := BlkAt.c2 hz0
            have hz1 : BlkAt W (pb + 2) 35 #[.string ⟨#[]⟩, .string ⟨#[]⟩, .string ⟨#[]⟩, .bool false, .slice none 0 0] := hC.2.2.2.2
            obtain ⟨b1_0, b1_1, b1_2, b1_3, b1_4, zz1⟩ := BlkAt.c5 hz1
            have fs : Fr (fun k => k = pb + 1 ∨ k = pb + 2) W (((((W.setCell ⟨pb + 2, 0, none⟩ (.string ⟨#[]⟩)).setCell ⟨pb + 2, 1, none⟩ (.string ⟨#[]⟩)).setCell ⟨pb + 2, 2, none⟩ (.string ⟨#[]⟩)).setCell ⟨pb + 2, 3, none⟩ (.bool false)).setCell ⟨pb + 2, 4, none⟩ (.slice none 0 0)) := ((((((Fr.refl (fun k => k = pb + 1 ∨ k = pb + 2) W)).setCell (p := ⟨pb + 2, 0, none⟩) (Or.inl (by simp)) (.string ⟨#[]⟩)).setCell (p := ⟨pb + 2, 1, none⟩) (Or.inl (by simp)) (.string ⟨#[]⟩)).setCell (p := ⟨pb + 2, 2, none⟩) (Or.inl (by simp)) (.string ⟨#[]⟩)).setCell (p := ⟨pb + 2, 3, none⟩) (Or.inl (by simp)) (.bool false)).setCell (p := ⟨pb + 2, 4, none⟩) (Or.inl (by simp)) (.slice none 0 0)
            have hn0 : BlkAt (((((W.setCell ⟨pb + 2, 0, none⟩ (.string ⟨#[]⟩)).setCell ⟨pb + 2, 1, none⟩ (.string ⟨#[]⟩)).setCell ⟨pb + 2, 2, none⟩ (.string ⟨#[]⟩)).setCell ⟨pb + 2, 3, none⟩ (.bool false)).setCell ⟨pb + 2, 4, none⟩ (.slice none 0 0)) (pb + 1) 46 #[.string (mkS rf.bs), .int .i64 (rf.e : Nat)] := (((((hz0).fr (fr_set1 _ (pb + 2) 0 (.string ⟨#[]⟩)) (by unfold eqB; omega)).fr (fr_set1 _ (pb + 2) 1 (.string ⟨#[]⟩)) (by unfold eqB; omega)).fr (fr_set1 _ (pb + 2) 2 (.string ⟨#[]⟩)) (by unfold eqB; omega)).fr (fr_set1 _ (pb + 2) 3 (.bool false)) (by unfold eqB; omega)).fr (fr_set1 _ (pb + 2) 4 (.slice none 0 0)) (by unfold eqB; omega)
            have hn1 : BlkAt (((((W.setCell ⟨pb + 2, 0, none⟩ (.string ⟨#[]⟩)).setCell ⟨pb + 2, 1, none⟩ (.string ⟨#[]⟩)).setCell ⟨pb + 2, 2, none⟩ (.string ⟨#[]⟩)).setCell ⟨pb + 2, 3, none⟩ (.bool false)).setCell ⟨pb + 2, 4, none⟩ (.slice none 0 0)) (pb + 2) 35 #[.string ⟨#[]⟩, .string ⟨#[]⟩, .string ⟨#[]⟩, .bool false, .slice none 0 0] := (((((hz1).set 0 (.string ⟨#[]⟩)).set 1 (.string ⟨#[]⟩)).set 2 (.string ⟨#[]⟩)).set 3 (.bool false)).set 4 (.slice none 0 0)
            go_wp2_with fail
            exact hK undef _ fs ⟨hC.1.then' fs, (hC.2.1).fr fs (by omega), (hC.2.2.1).fr fs (by omega), hn0, hn1⟩ trivial
        · intro vs w8 fw8 cw8 hV
          have v59 : vs 0 = _ := hV 0 _ _ rfl rfl (by decide)
          have v60 : vs 1 = _ := hV 1 _ _ rfl rfl (by decide)
          clear hV
          replace hR : BlkAt w8 (pb) 46 #[.string (mkS rf.bs), .int .i64 (rf.e : Nat)] := cw8.2.1
          replace h6 : BlkAt w8 (pb + 3) 35 #[.string ⟨#[]⟩, .string ⟨#[]⟩, .string ⟨#[]⟩, .bool false, .slice none 0 0] := cw8.2.2.1
          replace h4 : BlkAt w8 (pb + 1) 46 #[.string (mkS rf.bs), .int .i64 (rf.e : Nat)] := cw8.2.2.2.1
          replace h5 : BlkAt w8 (pb + 2) 35 #[.string ⟨#[]⟩, .string ⟨#[]⟩, .string ⟨#[]⟩, .bool false, .slice none 0 0] := cw8.2.2.2.2
          replace F := F.trans fw8 (fun i hi h => by omega)
          clear cw8
          simp only [putL, Act.put, Nat.reduceAdd, List.setIfInBounds_toArray, List.set_cons_zero, List.set_cons_succ, v59, v60]
          go_wp2_with fail
          refine bodyPost_ret (v := .tuple #[.agg #[.string (mkS rf.bs), .int .i64 (rf.e : Nat)], .agg #[.string ⟨#[]⟩, .string ⟨#[]⟩, .string ⟨#[]⟩, .bool false, .slice none 0 0]]) (results_cc hres.out rfl rfl (load_blk h4 Tryd.underlying46 rfl (by kernel_rfl)) (load_blk h5 Tryd.underlying35 rfl (by kernel_rfl))) rfl ?_
          rw [HG.out]
          exact ⟨none, 0, 0, rfl, rfl, by omega, RowAt.nil _ _, F⟩
  case inr =>
    rw [e2] at HG
    clear e1 e2
    go_enter Tryd.func33, Tryd.ntmps33
    go_upto_region 5 with fail
    generalize hwa : (((((w.alloc _).alloc _).alloc _).alloc _).alloc _) = v0 at *
    obtain ⟨pb, hq⟩ : ∃ pb, w.heap.size = pb := ⟨_, rfl⟩
    have HQ := hid hq
    rw [hq] at hR h4 h5 h6 h7 ⊢
    clear hwa hq
    obtain ⟨y0, y1, yf⟩ := BlkAt.c2 hR
    go_wp2_with fail
    refine (c1 v0).mono ?_
    rintro e w1 ⟨rfl, g1⟩
    clear y0 y1 yf
    replace hR := hR.fr g1 id
    replace h4 := h4.fr g1 id
    replace h5 := h5.fr g1 id
    replace h6 := h6.fr g1 id
    replace h7 := h7.fr g1 id
    replace F := F.then' g1
    clear g1
    obtain ⟨y0, y1, yf⟩ := BlkAt.c2 hR
    obtain ⟨x0, x1, x2, x3, x4, xf⟩ := BlkAt.c5 h7
    have xf0 := xf 0
    have yf0 := yf 0
    have yf1 := yf 1
    replace hR : BlkAt (((w1.setCell ⟨pb, 0, none⟩ (.string (mkS r1.bs))).setCell ⟨pb, 1, none⟩ (.int .i64 (r1.e : Nat))).setCell ⟨pb + 4, 0, none⟩ (.string (mkS t1))) (pb) 46 #[.string (mkS r1.bs), .int .i64 (r1.e : Nat)] := (((hR).set 0 (.string (mkS r1.bs))).set 1 (.int .i64 (r1.e : Nat))).fr (fr_set1 _ (pb + 4) 0 (.string (mkS t1))) (by unfold eqB; (have := HQ.out; omega))
    replace h4 : BlkAt (((w1.setCell ⟨pb, 0, none⟩ (.string (mkS r1.bs))).setCell ⟨pb, 1, none⟩ (.int .i64 (r1.e : Nat))).setCell ⟨pb + 4, 0, none⟩ (.string (mkS t1))) (pb + 1) 46 #[.string ⟨#[]⟩, .int .i64 0] := (((h4).fr (fr_set1 _ (pb) 0 (.string (mkS r1.bs))) (by unfold eqB; (have := HQ.out; omega))).fr (fr_set1 _ (pb) 1 (.int .i64 (r1.e : Nat))) (by unfold eqB; (have := HQ.out; omega))).fr (fr_set1 _ (pb + 4) 0 (.string (mkS t1))) (by unfold eqB; (have := HQ.out; omega))
    replace h5 : BlkAt (((w1.setCell ⟨pb, 0, none⟩ (.string (mkS r1.bs))).setCell ⟨pb, 1, none⟩ (.int .i64 (r1.e : Nat))).setCell ⟨pb + 4, 0, none⟩ (.string (mkS t1))) (pb + 2) 35 #[.string ⟨#[]⟩, .string ⟨#[]⟩, .string ⟨#[]⟩, .bool false, .slice none 0 0] := (((h5).fr (fr_set1 _ (pb) 0 (.string (mkS r1.bs))) (by unfold eqB; (have := HQ.out; omega))).fr (fr_set1 _ (pb) 1 (.int .i64 (r1.e : Nat))) (by unfold eqB; (have := HQ.out; omega))).fr (fr_set1 _ (pb + 4) 0 (.string (mkS t1))) (by unfold eqB; (have := HQ.out; omega))
    replace h6 : BlkAt (((w1.setCell ⟨pb, 0, none⟩ (.string (mkS r1.bs))).setCell ⟨pb, 1, none⟩ (.int .i64 (r1.e : Nat))).setCell ⟨pb + 4, 0, none⟩ (.string (mkS t1))) (pb + 3) 35 #[.string ⟨#[]⟩, .string ⟨#[]⟩, .string ⟨#[]⟩, .bool false, .slice none 0 0] := (((h6).fr (fr_set1 _ (pb) 0 (.string (mkS r1.bs))) (by unfold eqB; (have := HQ.out; omega))).fr (fr_set1 _ (pb) 1 (.int .i64 (r1.e : Nat))) (by unfold eqB; (have := HQ.out; omega))).fr (fr_set1 _ (pb + 4) 0 (.string (mkS t1))) (by unfold eqB; (have := HQ.out; omega))
    replace h7 : BlkAt (((w1.setCell ⟨pb, 0, none⟩ (.string (mkS r1.bs))).setCell ⟨pb, 1, none⟩ (.int .i64 (r1.e : Nat))).setCell ⟨pb + 4, 0, none⟩ (.string (mkS t1))) (pb + 4) 35 #[.string (mkS t1), .string ⟨#[]⟩, .string ⟨#[]⟩, .bool false, .slice none 0 0] := (((h7).fr (fr_set1 _ (pb) 0 (.string (mkS r1.bs))) (by unfold eqB; (have := HQ.out; omega))).fr (fr_set1 _ (pb) 1 (.int .i64 (r1.e : Nat))) (by unfold eqB; (have := HQ.out; omega))).set 0 (.string (mkS t1))
    replace F := (((F).trans (fr_set1 _ (pb) 0 (.string (mkS r1.bs))) (fun i hi h => by unfold eqB at h; (have := HQ.out; omega))).trans (fr_set1 _ (pb) 1 (.int .i64 (r1.e : Nat))) (fun i hi h => by unfold eqB at h; (have := HQ.out; omega))).trans (fr_set1 _ (pb + 4) 0 (.string (mkS t1))) (fun i hi h => by unfold eqB at h; (have := HQ.out; omega))
    go_upto_region 6 with fail
    generalize (((w1.setCell _ _).setCell _ _).setCell _ _) = v1 at *
    clear y0 y1 yf x0 x1 x2 x3 x4 xf xf0 yf0 yf1
    obtain ⟨y0, y1, yf⟩ := BlkAt.c2 hR
    go_wp2_with fail
    refine (c2 v1).mono ?_
    rintro e w2 ⟨rfl, g2⟩
    clear y0 y1 yf
    replace hR := hR.fr g2 id
    replace h4 := h4.fr g2 id
    replace h5 := h5.fr g2 id
    replace h6 := h6.fr g2 id
    replace h7 := h7.fr g2 id
    replace F := F.then' g2
    clear g2
    obtain ⟨y0, y1, yf⟩ := BlkAt.c2 hR
    obtain ⟨x0, x1, x2, x3, x4, xf⟩ := BlkAt.c5 h7
    have xf1 := xf 1
    have yf0 := yf 0
    have yf1 := yf 1
    replace hR : BlkAt (((w2.setCell ⟨pb, 0, none⟩ (.string (mkS r2.bs))).setCell ⟨pb, 1, none⟩ (.int .i64 (r2.e : Nat))).setCell ⟨pb + 4, 1, none⟩ (.string (mkS t2))) (pb) 46 #[.string (mkS r2.bs), .int .i64 (r2.e : Nat)] := (((hR).set 0 (.string (mkS r2.bs))).set 1 (.int .i64 (r2.e : Nat))).fr (fr_set1 _ (pb + 4) 1 (.string (mkS t2))) (by unfold eqB; (have := HQ.out; omega))
    replace h4 : BlkAt (((w2.setCell ⟨pb, 0, none⟩ (.string (mkS r2.bs))).setCell ⟨pb, 1, none⟩ (.int .i64 (r2.e : Nat))).setCell ⟨pb + 4, 1, none⟩ (.string (mkS t2))) (pb + 1) 46 #[.string ⟨#[]⟩, .int .i64 0] := (((h4).fr (fr_set1 _ (pb) 0 (.string (mkS r2.bs))) (by unfold eqB; (have := HQ.out; omega))).fr (fr_set1 _ (pb) 1 (.int .i64 (r2.e : Nat))) (by unfold eqB; (have := HQ.out; omega))).fr (fr_set1 _ (pb + 4) 1 (.string (mkS t2))) (by unfold eqB; (have := HQ.out; omega))
    replace h5 : BlkAt (((w2.setCell ⟨pb, 0, none⟩ (.string (mkS r2.bs))).setCell ⟨pb, 1, none⟩ (.int .i64 (r2.e : Nat))).setCell ⟨pb + 4, 1, none⟩ (.string (mkS t2))) (pb + 2) 35 #[.string ⟨#[]⟩, .string ⟨#[]⟩, .string ⟨#[]⟩, .bool false, .slice none 0 0] := (((h5).fr (fr_set1 _ (pb) 0 (.string (mkS r2.bs))) (by unfold eqB; (have := HQ.out; omega))).fr (fr_set1 _ (pb) 1 (.int .i64 (r2.e : Nat))) (by unfold eqB; (have := HQ.out; omega))).fr (fr_set1 _ (pb + 4) 1 (.string (mkS t2))) (by unfold eqB; (have := HQ.out; omega))
    replace h6 : BlkAt (((w2.setCell ⟨pb, 0, none⟩ (.string (mkS r2.bs))).setCell ⟨pb, 1, none⟩ (.int .i64 (r2.e : Nat))).setCell ⟨pb + 4, 1, none⟩ (.string (mkS t2))) (pb + 3) 35 #[.string ⟨#[]⟩, .string ⟨#[]⟩, .string ⟨#[]⟩, .bool false, .slice none 0 0] := (((h6).fr (fr_set1 _ (pb) 0 (.string (mkS r2.bs))) (by unfold eqB; (have := HQ.out; omega))).fr (fr_set1 _ (pb) 1 (.int .i64 (r2.e : Nat))) (by unfold eqB; (have := HQ.out; omega))).fr (fr_set1 _ (pb + 4) 1 (.string (mkS t2))) (by unfold eqB; (have := HQ.out; omega))
    replace h7 : BlkAt (((w2.setCell ⟨pb, 0, none⟩ (.string (mkS r2.bs))).setCell ⟨pb, 1, none⟩ (.int .i64 (r2.e : Nat))).setCell ⟨pb + 4, 1, none⟩ (.string (mkS t2))) (pb + 4) 35 #[.string (mkS t1), .string (mkS t2), .string ⟨#[]⟩, .bool false, .slice none 0 0] := (((h7).fr (fr_set1 _ (pb) 0 (.string (mkS r2.bs))) (by unfold eqB; (have := HQ.out; omega))).fr (fr_set1 _ (pb) 1 (.int .i64 (r2.e : Nat))) (by unfold eqB; (have := HQ.out; omega))).set 1 (.string (mkS t2))
    replace F := (((F).trans (fr_set1 _ (pb) 0 (.string (mkS r2.bs))) (fun i hi h => by unfold eqB at h; (have := HQ.out; omega))).trans (fr_set1 _ (pb) 1 (.int .i64 (r2.e : Nat))) (fun i hi h => by unfold eqB at h; (have := HQ.out; omega))).trans (fr_set1 _ (pb + 4) 1 (.string (mkS t2))) (fun i hi h => by unfold eqB at h; (have := HQ.out; omega))
    go_upto_region 8 with fail
    generalize (((w2.setCell _ _).setCell _ _).setCell _ _) = v2 at *
    clear y0 y1 yf x0 x1 x2 x3 x4 xf xf1 yf0 yf1
    obtain ⟨y0, y1, yf⟩ := BlkAt.c2 hR
    go_wp2_with fail
    refine (c3 v2).mono ?_
    rintro e w3 ⟨rfl, g3⟩
    clear y0 y1 yf
    replace hR := hR.fr g3 id
    replace h4 := h4.fr g3 id
    replace h5 := h5.fr g3 id
    replace h6 := h6.fr g3 id
    replace h7 := h7.fr g3 id
    replace F := F.then' g3
    clear g3
    obtain ⟨y0, y1, yf⟩ := BlkAt.c2 hR
    obtain ⟨x0, x1, x2, x3, x4, xf⟩ := BlkAt.c5 h7
    have xf2 := xf 2
    have yf0 := yf 0
    have yf1 := yf 1
    replace hR : BlkAt (((w3.setCell ⟨pb, 0, none⟩ (.string (mkS r3.bs))).setCell ⟨pb, 1, none⟩ (.int .i64 (r3.e : Nat))).setCell ⟨pb + 4, 2, none⟩ (.string (mkS t3))) (pb) 46 #[.string (mkS r3.bs), .int .i64 (r3.e : Nat)] := (((hR).set 0 (.string (mkS r3.bs))).set 1 (.int .i64 (r3.e : Nat))).fr (fr_set1 _ (pb + 4) 2 (.string (mkS t3))) (by unfold eqB; (have := HQ.out; omega))
    replace h4 : BlkAt (((w3.setCell ⟨pb, 0, none⟩ (.string (mkS r3.bs))).setCell ⟨pb, 1, none⟩ (.int .i64 (r3.e : Nat))).setCell ⟨pb + 4, 2, none⟩ (.string (mkS t3))) (pb + 1) 46 #[.string ⟨#[]⟩, .int .i64 0] := (((h4).fr (fr_set1 _ (pb) 0 (.string (mkS r3.bs))) (by unfold eqB; (have := HQ.out; omega))).fr (fr_set1 _ (pb) 1 (.int .i64 (r3.e : Nat))) (by unfold eqB; (have := HQ.out; omega))).fr (fr_set1 _ (pb + 4) 2 (.string (mkS t3))) (by unfold eqB; (have := HQ.out; omega))
    replace h5 : BlkAt (((w3.setCell ⟨pb, 0, none⟩ (.string (mkS r3.bs))).setCell ⟨pb, 1, none⟩ (.int .i64 (r3.e : Nat))).setCell ⟨pb + 4, 2, none⟩ (.string (mkS t3))) (pb + 2) 35 #[.string ⟨#[]⟩, .string ⟨#[]⟩, .string ⟨#[]⟩, .bool false, .slice none 0 0] := (((h5).fr (fr_set1 _ (pb) 0 (.string (mkS r3.bs))) (by unfold eqB; (have := HQ.out; omega))).fr (fr_set1 _ (pb) 1 (.int .i64 (r3.e : Nat))) (by unfold eqB; (have := HQ.out; omega))).fr (fr_set1 _ (pb + 4) 2 (.string (mkS t3))) (by unfold eqB; (have := HQ.out; omega))
    replace h6 : BlkAt (((w3.setCell ⟨pb, 0, none⟩ (.string (mkS r3.bs))).setCell ⟨pb, 1, none⟩ (.int .i64 (r3.e : Nat))).setCell ⟨pb + 4, 2, none⟩ (.string (mkS t3))) (pb + 3) 35 #[.string ⟨#[]⟩, .string ⟨#[]⟩, .string ⟨#[]⟩, .bool false, .slice none 0 0] := (((h6).fr (fr_set1 _ (pb) 0 (.string (mkS r3.bs))) (by unfold eqB; (have := HQ.out; omega))).fr (fr_set1 _ (pb) 1 (.int .i64 (r3.e : Nat))) (by unfold eqB; (have := HQ.out; omega))).fr (fr_set1 _ (pb + 4) 2 (.string (mkS t3))) (by unfold eqB; (have := HQ.out; omega))
    replace h7 : BlkAt (((w3.setCell ⟨pb, 0, none⟩ (.string (mkS r3.bs))).setCell ⟨pb, 1, none⟩ (.int .i64 (r3.e : Nat))).setCell ⟨pb + 4, 2, none⟩ (.string (mkS t3))) (pb + 4) 35 #[.string (mkS t1), .string (mkS t2), .string (mkS t3), .bool false, .slice none 0 0] := (((h7).fr (fr_set1 _ (pb) 0 (.string (mkS r3.bs))) (by unfold eqB; (have := HQ.out; omega))).fr (fr_set1 _ (pb) 1 (.int .i64 (r3.e : Nat))) (by unfold eqB; (have := HQ.out; omega))).set 2 (.string (mkS t3))
    replace F := (((F).trans (fr_set1 _ (pb) 0 (.string (mkS r3.bs))) (fun i hi h => by unfold eqB at h; (have := HQ.out; omega))).trans (fr_set1 _ (pb) 1 (.int .i64 (r3.e : Nat))) (fun i hi h => by unfold eqB at h; (have := HQ.out; omega))).trans (fr_set1 _ (pb + 4) 2 (.string (mkS t3))) (fun i hi h => by unfold eqB at h; (have := HQ.out; omega))
    go_upto_region 9 with fail
    generalize (((w3.setCell _ _).setCell _ _).setCell _ _) = v3 at *
    clear y0 y1 yf x0 x1 x2 x3 x4 xf xf2 yf0 yf1
    obtain ⟨y0, y1, yf⟩ := BlkAt.c2 hR
    go_wp2_with fail
    refine (c4 v3).mono ?_
    rintro e w4 ⟨rfl, g4⟩
    clear y0 y1 yf
    replace hR := hR.fr g4 id
    replace h4 := h4.fr g4 id
    replace h5 := h5.fr g4 id
    replace h6 := h6.fr g4 id
    replace h7 := h7.fr g4 id
    replace F := F.then' g4
    clear g4
    obtain ⟨y0, y1, yf⟩ := BlkAt.c2 hR
    obtain ⟨x0, x1, x2, x3, x4, xf⟩ := BlkAt.c5 h7
    have xf3 := xf 3
    have yf0 := yf 0
    have yf1 := yf 1
    replace hR : BlkAt (((w4.setCell ⟨pb, 0, none⟩ (.string (mkS r4.bs))).setCell ⟨pb, 1, none⟩ (.int .i64 (r4.e : Nat))).setCell ⟨pb + 4, 3, none⟩ (.bool t4)) (pb) 46 #[.string (mkS r4.bs), .int .i64 (r4.e : Nat)] := (((hR).set 0 (.string (mkS r4.bs))).set 1 (.int .i64 (r4.e : Nat))).fr (fr_set1 _ (pb + 4) 3 (.bool t4)) (by unfold eqB; (have := HQ.out; omega))
    replace h4 : BlkAt (((w4.setCell ⟨pb, 0, none⟩ (.string (mkS r4.bs))).setCell ⟨pb, 1, none⟩ (.int .i64 (r4.e : Nat))).setCell ⟨pb + 4, 3, none⟩ (.bool t4)) (pb + 1) 46 #[.string ⟨#[]⟩, .int .i64 0] := (((h4).fr (fr_set1 _ (pb) 0 (.string (mkS r4.bs))) (by unfold eqB; (have := HQ.out; omega))).fr (fr_set1 _ (pb) 1 (.int .i64 (r4.e : Nat))) (by unfold eqB; (have := HQ.out; omega))).fr (fr_set1 _ (pb + 4) 3 (.bool t4)) (by unfold eqB; (have := HQ.out; omega))
    replace h5 : BlkAt (((w4.setCell ⟨pb, 0, none⟩ (.string (mkS r4.bs))).setCell ⟨pb, 1, none⟩ (.int .i64 (r4.e : Nat))).setCell ⟨pb + 4, 3, none⟩ (.bool t4)) (pb + 2) 35 #[.string ⟨#[]⟩, .string ⟨#[]⟩, .string ⟨#[]⟩, .bool false, .slice none 0 0] := (((h5).fr (fr_set1 _ (pb) 0 (.string (mkS r4.bs))) (by unfold eqB; (have := HQ.out; omega))).fr (fr_set1 _ (pb) 1 (.int .i64 (r4.e : Nat))) (by unfold eqB; (have := HQ.out; omega))).fr (fr_set1 _ (pb + 4) 3 (.bool t4)) (by unfold eqB; (have := HQ.out; omega))
    replace h6 : BlkAt (((w4.setCell ⟨pb, 0, none⟩ (.string (mkS r4.bs))).setCell ⟨pb, 1, none⟩ (.int .i64 (r4.e : Nat))).setCell ⟨pb + 4, 3, none⟩ (.bool t4)) (pb + 3) 35 #[.string ⟨#[]⟩, .string ⟨#[]⟩, .string ⟨#[]⟩, .bool false, .slice none 0 0] := (((h6).fr (fr_set1 _ (pb) 0 (.string (mkS r4.bs))) (by unfold eqB; (have := HQ.out; omega))).fr (fr_set1 _ (pb) 1 (.int .i64 (r4.e : Nat))) (by unfold eqB; (have := HQ.out; omega))).fr (fr_set1 _ (pb + 4) 3 (.bool t4)) (by unfold eqB; (have := HQ.out; omega))
    replace h7 : BlkAt (((w4.setCell ⟨pb, 0, none⟩ (.string (mkS r4.bs))).setCell ⟨pb, 1, none⟩ (.int .i64 (r4.e : Nat))).setCell ⟨pb + 4, 3, none⟩ (.bool t4)) (pb + 4) 35 #[.string (mkS t1), .string (mkS t2), .string (mkS t3), .bool t4, .slice none 0 0] := (((h7).fr (fr_set1 _ (pb) 0 (.string (mkS r4.bs))) (by unfold eqB; (have := HQ.out; omega))).fr (fr_set1 _ (pb) 1 (.int .i64 (r4.e : Nat))) (by unfold eqB; (have := HQ.out; omega))).set 3 (.bool t4)
    replace F := (((F).trans (fr_set1 _ (pb) 0 (.string (mkS r4.bs))) (fun i hi h => by unfold eqB at h; (have := HQ.out; omega))).trans (fr_set1 _ (pb) 1 (.int .i64 (r4.e : Nat))) (fun i hi h => by unfold eqB at h; (have := HQ.out; omega))).trans (fr_set1 _ (pb + 4) 3 (.bool t4)) (fun i hi h => by unfold eqB at h; (have := HQ.out; omega))
    go_upto_region 10 with fail
    generalize (((w4.setCell _ _).setCell _ _).setCell _ _) = v4 at *
    clear y0 y1 yf x0 x1 x2 x3 x4 xf xf3 yf0 yf1
    obtain ⟨y0, y1, yf⟩ := BlkAt.c2 hR
    go_wp2_with fail
    refine (c5 v4).mono ?_
    rintro e w5 ⟨A, n, c, rfl, HN, hn, hrow, hAB, g5⟩
    clear y0 y1 yf
    have hq4 := h7.lt
    have HAB : Hid (∀ a, A = some a → pb + 4 < a.block) := fun a e => Nat.lt_of_lt_of_le hq4 (hAB a e)
    clear hAB
    replace hR := hR.fr g5 id
    replace h4 := h4.fr g5 id
    replace h5 := h5.fr g5 id
    replace h6 := h6.fr g5 id
    replace h7 := h7.fr g5 id
    replace F := F.then' g5
    clear g5
    obtain ⟨y0, y1, yf⟩ := BlkAt.c2 hR
    obtain ⟨x0, x1, x2, x3, x4, xf⟩ := BlkAt.c5 h7
    have xf4 := xf 4
    have yf0 := yf 0
    have yf1 := yf 1
    replace hR : BlkAt (((w5.setCell ⟨pb, 0, none⟩ (.string (mkS r5.bs))).setCell ⟨pb, 1, none⟩ (.int .i64 (r5.e : Nat))).setCell ⟨pb + 4, 4, none⟩ (.slice A n c)) (pb) 46 #[.string (mkS r5.bs), .int .i64 (r5.e : Nat)] := (((hR).set 0 (.string (mkS r5.bs))).set 1 (.int .i64 (r5.e : Nat))).fr (fr_set1 _ (pb + 4) 4 (.slice A n c)) (by unfold eqB; (have := HQ.out; omega))
    replace h4 : BlkAt (((w5.setCell ⟨pb, 0, none⟩ (.string (mkS r5.bs))).setCell ⟨pb, 1, none⟩ (.int .i64 (r5.e : Nat))).setCell ⟨pb + 4, 4, none⟩ (.slice A n c)) (pb + 1) 46 #[.string ⟨#[]⟩, .int .i64 0] := (((h4).fr (fr_set1 _ (pb) 0 (.string (mkS r5.bs))) (by unfold eqB; (have := HQ.out; omega))).fr (fr_set1 _ (pb) 1 (.int .i64 (r5.e : Nat))) (by unfold eqB; (have := HQ.out; omega))).fr (fr_set1 _ (pb + 4) 4 (.slice A n c)) (by unfold eqB; (have := HQ.out; omega))
    replace h5 : BlkAt (((w5.setCell ⟨pb, 0, none⟩ (.string (mkS r5.bs))).setCell ⟨pb, 1, none⟩ (.int .i64 (r5.e : Nat))).setCell ⟨pb + 4, 4, none⟩ (.slice A n c)) (pb + 2) 35 #[.string ⟨#[]⟩, .string ⟨#[]⟩, .string ⟨#[]⟩, .bool false, .slice none 0 0] := (((h5).fr (fr_set1 _ (pb) 0 (.string (mkS r5.bs))) (by unfold eqB; (have := HQ.out; omega))).fr (fr_set1 _ (pb) 1 (.int .i64 (r5.e : Nat))) (by unfold eqB; (have := HQ.out; omega))).fr (fr_set1 _ (pb + 4) 4 (.slice A n c)) (by unfold eqB; (have := HQ.out; omega))
    replace h6 : BlkAt (((w5.setCell ⟨pb, 0, none⟩ (.string (mkS r5.bs))).setCell ⟨pb, 1, none⟩ (.int .i64 (r5.e : Nat))).setCell ⟨pb + 4, 4, none⟩ (.slice A n c)) (pb + 3) 35 #[.string ⟨#[]⟩, .string ⟨#[]⟩, .string ⟨#[]⟩, .bool false, .slice none 0 0] := (((h6).fr (fr_set1 _ (pb) 0 (.string (mkS r5.bs))) (by unfold eqB; (have := HQ.out; omega))).fr (fr_set1 _ (pb) 1 (.int .i64 (r5.e : Nat))) (by unfold eqB; (have := HQ.out; omega))).fr (fr_set1 _ (pb + 4) 4 (.slice A n c)) (by unfold eqB; (have := HQ.out; omega))
    replace h7 : BlkAt (((w5.setCell ⟨pb, 0, none⟩ (.string (mkS r5.bs))).setCell ⟨pb, 1, none⟩ (.int .i64 (r5.e : Nat))).setCell ⟨pb + 4, 4, none⟩ (.slice A n c)) (pb + 4) 35 #[.string (mkS t1), .string (mkS t2), .string (mkS t3), .bool t4, .slice A n c] := (((h7).fr (fr_set1 _ (pb) 0 (.string (mkS r5.bs))) (by unfold eqB; (have := HQ.out; omega))).fr (fr_set1 _ (pb) 1 (.int .i64 (r5.e : Nat))) (by unfold eqB; (have := HQ.out; omega))).set 4 (.slice A n c)
    replace F := (((F).trans (fr_set1 _ (pb) 0 (.string (mkS r5.bs))) (fun i hi h => by unfold eqB at h; (have := HQ.out; omega))).trans (fr_set1 _ (pb) 1 (.int .i64 (r5.e : Nat))) (fun i hi h => by unfold eqB at h; (have := HQ.out; omega))).trans (fr_set1 _ (pb + 4) 4 (.slice A n c)) (fun i hi h => by unfold eqB at h; (have := HQ.out; omega))
    replace hrow := (((hrow).fr (fr_set1 _ (pb) 0 (.string (mkS r5.bs))) (fun a e _ _ h => by have := HAB.out a e; unfold eqB at h; omega)).fr (fr_set1 _ (pb) 1 (.int .i64 (r5.e : Nat))) (fun a e _ _ h => by have := HAB.out a e; unfold eqB at h; omega)).fr (fr_set1 _ (pb + 4) 4 (.slice A n c)) (fun a e _ _ h => by have := HAB.out a e; unfold eqB at h; omega)
    go_upto_region 11 with fail
    generalize (((w5.setCell _ _).setCell _ _).setCell _ _) = v5 at *
    clear y0 y1 yf x0 x1 x2 x3 x4 xf xf4 yf0 yf1
    generalize v5 = VV at *
    obtain ⟨u, hu⟩ : ∃ u : UsV, u = ⟨mkS t1, mkS t2, mkS t3, t4, t5⟩ := ⟨_, rfl⟩
    rw [← hu] at HG
    have hgs : u.gs = t5 := by rw [hu]
    obtain ⟨rr, A, n, c, HG, hR, h7, hrow, HN, hn, HAB⟩ : ∃ rr A n c, Hid (getU 2 r = (rFail rr (checkU 2 u), if (rFail rr (checkU 2 u)).e = 0 then u else zU)) ∧ BlkAt VV pb 46 #[.string (mkS rr.bs), .int .i64 (rr.e : Nat)] ∧ BlkAt VV (pb + 4) 35 #[.string u.name, .string u.hash, .string u.mail, .bool u.dis, .slice A n c] ∧ RowAt VV A (strs u.gs) ∧ Hid (u.gs.length = n) ∧ n ≤ 65535 ∧ Hid (∀ a, A = some a → pb + 4 < a.block) := ⟨r5, A, n, c, HG, hR, by rw [hu]; exact h7, by rw [hgs]; exact hrow, by rw [hgs]; exact HN, hn, HAB⟩
    have hck := fun W f => checkR_calls W 2 u A n c f HN
    obtain ⟨k, hk⟩ : ∃ k, checkU 2 u = k := ⟨_, rfl⟩
    rw [hk] at HG hck
    obtain ⟨rf, hrf⟩ : ∃ x, rFail rr k = x := ⟨_, rfl⟩
    have hfl := fun W => failR_calls W rr k
    rw [hrf] at HG hfl
    unfold Rd.val at hfl
    clear hk hu hgs hrf
    have HQE := HQ.out
    apply wp_region_calm (R := Fr (eqB (pb))) (C := fun q W => Fr (eqB (pb)) VV W ∧ BlkAt W (pb + 1) 46 #[.string ⟨#[]⟩, .int .i64 0] ∧ BlkAt W (pb + 2) 35 #[.string ⟨#[]⟩, .string ⟨#[]⟩, .string ⟨#[]⟩, .bool false, .slice none 0 0] ∧ BlkAt W (pb + 3) 35 #[.string ⟨#[]⟩, .string ⟨#[]⟩, .string ⟨#[]⟩, .bool false, .slice none 0 0] ∧ BlkAt W (pb + 4) 35 #[.string u.name, .string u.hash, .string u.mail, .bool u.dis, .slice A n c] ∧ BlkAt W (pb) 46 (if q = 0 then #[.string (mkS rr.bs), .int .i64 (rr.e : Nat)] else if q = 1 then #[.string (mkS rr.bs), .int .i64 (rr.e : Nat)] else #[.string (mkS rf.bs), .int .i64 (rf.e : Nat)])) [true, false, false, false, false, true]
      [eqv _, eqv _, eqv _, eqv _, eqv _, anyv]
      (by kernel_rfl) (by kernel_rfl) (fun _ _ _ h1 h2 => h1.then' h2) ((Fr.refl _ _).drew) ⟨(Fr.refl _ _).drew, h4, h5, h6, h7, hR⟩ (by kernel_rfl)
    · refine ⟨?_, ?_, ?_, ?_, ?_, ?_, trivial⟩
      · rw [if_pos (by decide)]
        intro a W K hC hd hK
        replace hC : (fun q W => Fr (eqB (pb)) VV W ∧ BlkAt W (pb + 1) 46 #[.string ⟨#[]⟩, .int .i64 0] ∧ BlkAt W (pb + 2) 35 #[.string ⟨#[]⟩, .string ⟨#[]⟩, .string ⟨#[]⟩, .bool false, .slice none 0 0] ∧ BlkAt W (pb + 3) 35 #[.string ⟨#[]⟩, .string ⟨#[]⟩, .string ⟨#[]⟩, .bool false, .slice none 0 0] ∧ BlkAt W (pb + 4) 35 #[.string u.name, .string u.hash, .string u.mail, .bool u.dis, .slice A n c] ∧ BlkAt W (pb) 46 (if q = 0 then #[.string (mkS rr.bs), .int .i64 (rr.e : Nat)] else if q = 1 then #[.string (mkS rr.bs), .int .i64 (rr.e : Nat)] else #[.string (mkS rf.bs), .int .i64 (rf.e : Nat)])) 0 W := hC
        have d2 : a.tmps[2]?.getD undef = .pointer (some ⟨pb, 0, none⟩) := hd 2 (by decide)
        refine wpOp_plain rfl rfl ?_
        obtain ⟨x0_0, x0_1, z0⟩ := BlkAt.c2 (hC.2.1)
        obtain ⟨x1_0, x1_1, x1_2, x1_3, x1_4, z1⟩ := BlkAt.c5 (hC.2.2.1)
        obtain ⟨x2_0, x2_1, x2_2, x2_3, x2_4, z2⟩ := BlkAt.c5 (hC.2.2.2.1)
        obtain ⟨x3_0, x3_1, x3_2, x3_3, x3_4, z3⟩ := BlkAt.c5 (hC.2.2.2.2.1)
        have hz0 : BlkAt W (pb) 46 #[.string (mkS rr.bs), .int .i64 (rr.e : Nat)] := hC.2.2.2.2.2
        obtain ⟨b0_0, b0_1, zz0⟩ := BlkAt.c2 hz0
        have fs : Fr (eqB (pb)) W W := (Fr.refl (eqB (pb)) W)
        have hn0 : BlkAt W (pb) 46 #[.string (mkS rr.bs), .int .i64 (rr.e : Nat)] := hz0
        go_wp2_with fail
        exact hK _ _ (Fr.refl _ _) ⟨hC.1, hC.2.1, hC.2.2.1, hC.2.2.2.1, hC.2.2.2.2.1, hn0⟩ rfl
      · rw [if_neg (by decide)]; intro kq
        exact calm_mv 1 rfl rfl (Or.inl rfl) (Fr.refl _) (by decide) fun v w hd => hd
      · rw [if_neg (by decide)]; intro kq
        intro a W K hC hd hK
        have d7 : a.tmps[7]?.getD undef = .pointer (some ⟨pb + 4, 0, none⟩) := hd 7 (by decide)
        refine wpOp_plain rfl rfl ?_
        obtain ⟨x0_0, x0_1, z0⟩ := BlkAt.c2 (hC.2.1)
        obtain ⟨x1_0, x1_1, x1_2, x1_3, x1_4, z1⟩ := BlkAt.c5 (hC.2.2.1)
        obtain ⟨x2_0, x2_1, x2_2, x2_3, x2_4, z2⟩ := BlkAt.c5 (hC.2.2.2.1)
        obtain ⟨x3_0, x3_1, x3_2, x3_3, x3_4, z3⟩ := BlkAt.c5 (hC.2.2.2.2.1)
        go_wp2_with fail
        exact hK _ _ (Fr.refl _ _) hC rfl
      · rw [if_neg (by decide)]; intro kq
        intro a W K hC hd hK
        have d52 : _ = _ := hd 52 (by decide)
        have d53 : _ = _ := hd 53 (by decide)
        refine wpOp_plain rfl rfl ?_
        obtain ⟨x0_0, x0_1, z0⟩ := BlkAt.c2 (hC.2.1)
        obtain ⟨x1_0, x1_1, x1_2, x1_3, x1_4, z1⟩ := BlkAt.c5 (hC.2.2.1)
        obtain ⟨x2_0, x2_1, x2_2, x2_3, x2_4, z2⟩ := BlkAt.c5 (hC.2.2.2.1)
        obtain ⟨x3_0, x3_1, x3_2, x3_3, x3_4, z3⟩ := BlkAt.c5 (hC.2.2.2.2.1)
        go_wp2_with fail
        refine (hck W (hrow.fr hC.1 (fun a e _ _ h => by have := HAB.out a e; unfold eqB at h; omega))).mono ?_
        rintro e9 w9a ⟨rfl, f9⟩
        exact hK _ _ (f9.mono fun _ _ h => h.elim) ⟨hC.1.then' (f9.mono fun _ _ h => h.elim), hC.2.1.fr f9 id, hC.2.2.1.fr f9 id, hC.2.2.2.1.fr f9 id, hC.2.2.2.2.1.fr f9 id, hC.2.2.2.2.2.fr f9 id⟩ rfl
      · rw [if_neg (by decide)]; intro kq
        intro a W K hC hd hK
        have d51 : _ = _ := hd 51 (by decide)
        have d54 : _ = _ := hd 54 (by decide)
        refine wpOp_plain rfl rfl ?_
        obtain ⟨x0_0, x0_1, z0⟩ := BlkAt.c2 (hC.2.1)
        obtain ⟨x1_0, x1_1, x1_2, x1_3, x1_4, z1⟩ := BlkAt.c5 (hC.2.2.1)
        obtain ⟨x2_0, x2_1, x2_2, x2_3, x2_4, z2⟩ := BlkAt.c5 (hC.2.2.2.1)
        obtain ⟨x3_0, x3_1, x3_2, x3_3, x3_4, z3⟩ := BlkAt.c5 (hC.2.2.2.2.1)
        go_wp2_with fail
        refine (hfl W).mono ?_
        rintro e9 w9a ⟨rfl, f9⟩
        exact hK _ _ (f9.mono fun _ _ h => h.elim) ⟨hC.1.then' (f9.mono fun _ _ h => h.elim), hC.2.1.fr f9 id, hC.2.2.1.fr f9 id, hC.2.2.2.1.fr f9 id, hC.2.2.2.2.1.fr f9 id, hC.2.2.2.2.2.fr f9 id⟩ rfl
      · rw [if_pos (by decide)]
        intro a W K hC hd hK
        replace hC : (fun q W => Fr (eqB (pb)) VV W ∧ BlkAt W (pb + 1) 46 #[.string ⟨#[]⟩, .int .i64 0] ∧ BlkAt W (pb + 2) 35 #[.string ⟨#[]⟩, .string ⟨#[]⟩, .string ⟨#[]⟩, .bool false, .slice none 0 0] ∧ BlkAt W (pb + 3) 35 #[.string ⟨#[]⟩, .string ⟨#[]⟩, .string ⟨#[]⟩, .bool false, .slice none 0 0] ∧ BlkAt W (pb + 4) 35 #[.string u.name, .string u.hash, .string u.mail, .bool u.dis, .slice A n c] ∧ BlkAt W (pb) 46 (if q = 0 then #[.string (mkS rr.bs), .int .i64 (rr.e : Nat)] else if q = 1 then #[.string (mkS rr.bs), .int .i64 (rr.e : Nat)] else #[.string (mkS rf.bs), .int .i64 (rf.e : Nat)])) 1 W := hC
        have d2 : a.tmps[2]?.getD undef = .pointer (some ⟨pb, 0, none⟩) := hd 2 (by decide)
        have d55 : _ = _ := hd 55 (by decide)
        refine wpOp_plain rfl rfl ?_
        obtain ⟨x0_0, x0_1, z0⟩ := BlkAt.c2 (hC.2.1)
        obtain ⟨x1_0, x1_1, x1_2, x1_3, x1_4, z1⟩ := BlkAt.c5 (hC.2.2.1)
        obtain ⟨x2_0, x2_1, x2_2, x2_3, x2_4, z2⟩ := BlkAt.c5 (hC.2.2.2.1)
        obtain ⟨x3_0, x3_1, x3_2, x3_3, x3_4, z3⟩ := BlkAt.c5 (hC.2.2.2.2.1)
        have hz0 : BlkAt W (pb) 46 #[.string (mkS rr.bs), .int .i64 (rr.e : Nat)] := hC.2.2.2.2.2
        obtain ⟨b0_0, b0_1, zz0⟩ := BlkAt.c2 hz0
        have fs : Fr (eqB (pb)) W ((W.setCell ⟨pb, 0, none⟩ (.string (mkS rf.bs))).setCell ⟨pb, 1, none⟩ (.int .i64 (rf.e : Nat))) := (((Fr.refl (eqB (pb)) W)).setCell (p := ⟨pb, 0, none⟩) (Or.inl rfl) (.string (mkS rf.bs))).setCell (p := ⟨pb, 1, none⟩) (Or.inl rfl) (.int .i64 (rf.e : Nat))
        have hn0 : BlkAt ((W.setCell ⟨pb, 0, none⟩ (.string (mkS rf.bs))).setCell ⟨pb, 1, none⟩ (.int .i64 (rf.e : Nat))) (pb) 46 #[.string (mkS rf.bs), .int .i64 (rf.e : Nat)] := ((hz0).set 0 (.string (mkS rf.bs))).set 1 (.int .i64 (rf.e : Nat))
        go_wp2_with fail
        exact hK undef _ fs ⟨hC.1.then' fs, (hC.2.1).fr fs (by unfold eqB; omega), (hC.2.2.1).fr fs (by unfold eqB; omega), (hC.2.2.2.1).fr fs (by unfold eqB; omega), (hC.2.2.2.2.1).fr fs (by unfold eqB; omega), hn0⟩ trivial
    · intro vs w9 fw9 cw9 hV
      have v51 : vs 0 = _ := hV 0 _ _ rfl rfl (by decide)
      have v52 : vs 1 = _ := hV 1 _ _ rfl rfl (by decide)
      have v53 : vs 2 = _ := hV 2 _ _ rfl rfl (by decide)
      have v54 : vs 3 = _ := hV 3 _ _ rfl rfl (by decide)
      have v55 : vs 4 = _ := hV 4 _ _ rfl rfl (by decide)
      clear hV
      replace h4 : BlkAt w9 (pb + 1) 46 #[.string ⟨#[]⟩, .int .i64 0] := cw9.2.1
      replace h5 : BlkAt w9 (pb + 2) 35 #[.string ⟨#[]⟩, .string ⟨#[]⟩, .string ⟨#[]⟩, .bool false, .slice none 0 0] := cw9.2.2.1
      replace h6 : BlkAt w9 (pb + 3) 35 #[.string ⟨#[]⟩, .string ⟨#[]⟩, .string ⟨#[]⟩, .bool false, .slice none 0 0] := cw9.2.2.2.1
      replace h7 : BlkAt w9 (pb + 4) 35 #[.string u.name, .string u.hash, .string u.mail, .bool u.dis, .slice A n c] := cw9.2.2.2.2.1
      replace hR : BlkAt w9 (pb) 46 #[.string (mkS rf.bs), .int .i64 (rf.e : Nat)] := cw9.2.2.2.2.2
      replace F := F.trans fw9 (fun i hi h => by unfold eqB at h; omega)
      clear cw9
      simp only [putL, Act.put, Nat.reduceAdd, List.setIfInBounds_toArray, List.set_cons_zero, List.set_cons_succ, v51, v52, v53, v54, v55]
      replace hrow := hrow.fr fw9 (fun a e _ _ h => by have := HAB.out a e; unfold eqB at h; omega)
      clear hck hfl fw9
      obtain ⟨y0, y1, yf⟩ := BlkAt.c2 hR
      obtain ⟨b, hb⟩ : ∃ b, ((rf.e : Int) != 0) = b := ⟨_, rfl⟩
      cases b
      · have he : rf.e = 0 := by have := bne_eq_false_iff_eq.mp hb; omega
        rw [if_pos he] at HG
        clear he
        go_wp2_with fail
        clear y0 y1 yf
        apply wp_region_calm (R := Fr (fun k => k = pb + 1 ∨ k = pb + 2)) (C := fun q W => Fr (fun k => k = pb + 1 ∨ k = pb + 2) w9 W ∧ BlkAt W (pb) 46 #[.string (mkS rf.bs), .int .i64 (rf.e : Nat)] ∧ BlkAt W (pb + 4) 35 #[.string u.name, .string u.hash, .string u.mail, .bool u.dis, .slice A n c] ∧ BlkAt W (pb + 1) 46 (if q = 0 then #[.string ⟨#[]⟩, .int .i64 0] else if q = 1 then #[.string (mkS rf.bs), .int .i64 (rf.e : Nat)] else #[.string (mkS rf.bs), .int .i64 (rf.e : Nat)]) ∧ BlkAt W (pb + 2) 35 (if q = 0 then #[.string ⟨#[]⟩, .string ⟨#[]⟩, .string ⟨#[]⟩, .bool false, .slice none 0 0] else if q = 1 then #[.string ⟨#[]⟩, .string ⟨#[]⟩, .string ⟨#[]⟩, .bool false, .slice none 0 0] else #[.string u.name, .string u.hash, .string u.mail, .bool u.dis, .slice A n c])) [false, false, true, true]
          [eqv _, eqv _, anyv, anyv]
          (by kernel_rfl) (by kernel_rfl) (fun _ _ _ h1 h2 => h1.then' h2) ((Fr.refl _ _).drew) ⟨(Fr.refl _ _).drew, hR, h7, h4, h5⟩ (by kernel_rfl)
        · refine ⟨?_, ?_, ?_, ?_, trivial⟩
          · rw [if_neg (by decide)]; intro kq
            intro a W K hC hd hK
            have d2 : a.tmps[2]?.getD undef = .pointer (some ⟨pb, 0, none⟩) := hd 2 (by decide)
            refine wpOp_plain rfl rfl ?_
            obtain ⟨x0_0, x0_1, z0⟩ := BlkAt.c2 (hC.2.1)
            obtain ⟨x1_0, x1_1, x1_2, x1_3, x1_4, z1⟩ := BlkAt.c5 (hC.2.2.1)
            go_wp2_with fail
            exact hK _ _ (Fr.refl _ _) hC rfl
          · rw [if_neg (by decide)]; intro kq
            intro a W K hC hd hK
            have d7 : a.tmps[7]?.getD undef = .pointer (some ⟨pb + 4, 0, none⟩) := hd 7 (by decide)
            refine wpOp_plain rfl rfl ?_
            obtain ⟨x0_0, x0_1, z0⟩ := BlkAt.c2 (hC.2.1)
            obtain ⟨x1_0, x1_1, x1_2, x1_3, x1_4, z1⟩ := BlkAt.c5 (hC.2.2.1)
            go_wp2_with fail
            exact hK _ _ (Fr.refl _ _) hC rfl
          · rw [if_pos (by decide)]
            intro a W K hC hd hK
            replace hC : (fun q W => Fr (fun k => k = pb + 1 ∨ k = pb + 2) w9 W ∧ BlkAt W (pb) 46 #[.string (mkS rf.bs), .int .i64 (rf.e : Nat)] ∧ BlkAt W (pb + 4) 35 #[.string u.name, .string u.hash, .string u.mail, .bool u.dis, .slice A n c] ∧ BlkAt W (pb + 1) 46 (if q = 0 then #[.string ⟨#[]⟩, .int .i64 0] else if q = 1 then #[.string (mkS rf.bs), .int .i64 (rf.e : Nat)] else #[.string (mkS rf.bs), .int .i64 (rf.e : Nat)]) ∧ BlkAt W (pb + 2) 35 (if q = 0 then #[.string ⟨#[]⟩, .string ⟨#[]⟩, .string ⟨#[]⟩, .bool false, .slice none 0 0] else if q = 1 then #[.string ⟨#[]⟩, .string ⟨#[]⟩, .string ⟨#[]⟩, .bool false, .slice none 0 0] else #[.string u.name, .string u.hash, .string u.mail, .bool u.dis, .slice A n c])) 0 W := hC
            have d4 : a.tmps[4]?.getD undef = .pointer (some ⟨pb + 1, 0, none⟩) := hd 4 (by decide)
            have d61 : _ = _ := hd 61 (by decide)
            refine wpOp_plain rfl rfl ?_
            obtain ⟨x0_0, x0_1, z0⟩ := BlkAt.c2 (hC.2.1)
            obtain ⟨x1_0, x1_1, x1_2, x1_3, x1_4, z1⟩ := BlkAt.c5 (hC.2.2.1)
            have hz0 : BlkAt W (pb + 1) 46 #[.string ⟨#[]⟩, .int .i64 0] := hC.2.2.2.1
            obtain ⟨b0_0, b0_1, zz0⟩ := BlkAt.c2 hz0
            have hz1 : BlkAt W (pb + 2) 35 #[.string ⟨#[]⟩, .string ⟨#[]⟩, .string ⟨#[]⟩, .bool false, .slice none 0 0] := hC.2.2.2.2
            obtain ⟨b1_0, b1_1, b1_2, b1_3, b1_4, zz1⟩ := BlkAt.c5 hz1
            have fs : Fr (fun k => k = pb + 1 ∨ k = pb + 2) W ((W.setCell ⟨pb + 1, 0, none⟩ (.string (mkS rf.bs))).setCell ⟨pb + 1, 1, none⟩ (.int .i64 (rf.e : Nat))) := (((Fr.refl (fun k => k = pb + 1 ∨ k = pb + 2) W)).setCell (p := ⟨pb + 1, 0, none⟩) (Or.inl (by simp)) (.string (mkS rf.bs))).setCell (p := ⟨pb + 1, 1, none⟩) (Or.inl (by simp)) (.int .i64 (rf.e : Nat))
            have hn0 : BlkAt ((W.setCell ⟨pb + 1, 0, none⟩ (.string (mkS rf.bs))).setCell ⟨pb + 1, 1, none⟩ (.int .i64 (rf.e : Nat))) (pb + 1) 46 #[.string (mkS rf.bs), .int .i64 (rf.e : Nat)] := ((hz0).set 0 (.string (mkS rf.bs))).set 1 (.int .i64 (rf.e : Nat))
            have hn1 : BlkAt ((W.setCell ⟨pb + 1, 0, none⟩ (.string (mkS rf.bs))).setCell ⟨pb + 1, 1, none⟩ (.int .i64 (rf.e : Nat))) (pb + 2) 35 #[.string ⟨#[]⟩, .string ⟨#[]⟩, .string ⟨#[]⟩, .bool false, .slice none 0 0] := ((hz1).fr (fr_set1 _ (pb + 1) 0 (.string (mkS rf.bs))) (by unfold eqB; omega)).fr (fr_set1 _ (pb + 1) 1 (.int .i64 (rf.e : Nat))) (by unfold eqB; omega)
            go_wp2_with fail
            exact hK undef _ fs ⟨hC.1.then' fs, (hC.2.1).fr fs (by omega), (hC.2.2.1).fr fs (by omega), hn0, hn1⟩ trivial
          · rw [if_pos (by decide)]
            intro a W K hC hd hK
            replace hC : (fun q W => Fr (fun k => k = pb + 1 ∨ k = pb + 2) w9 W ∧ BlkAt W (pb) 46 #[.string (mkS rf.bs), .int .i64 (rf.e : Nat)] ∧ BlkAt W (pb + 4) 35 #[.string u.name, .string u.hash, .string u.mail, .bool u.dis, .slice A n c] ∧ BlkAt W (pb + 1) 46 (if q = 0 then #[.string ⟨#[]⟩, .int .i64 0] else if q = 1 then #[.string (mkS rf.bs), .int .i64 (rf.e : Nat)] else #[.string (mkS rf.bs), .int .i64 (rf.e : Nat)]) ∧ BlkAt W (pb + 2) 35 (if q = 0 then #[.string ⟨#[]⟩, .string ⟨#[]⟩, .string ⟨#[]⟩, .bool false, .slice none 0 0] else if q = 1 then #[.string ⟨#[]⟩, .string ⟨#[]⟩, .string ⟨#[]⟩, .bool false, .slice none 0 0] else #[.string u.name, .string u.hash, .string u.mail, .bool u.dis, .slice A n c])) 1 W := hC
            have d5 : a.tmps[5]?.getD undef = .pointer (some ⟨pb + 2, 0, none⟩) := hd 5 (by decide)
            have d62 : _ = _ := hd 62 (by decide)
            refine wpOp_plain rfl rfl ?_
            obtain ⟨x0_0, x0_1, z0⟩ := BlkAt.c2 (hC.2.1)
            obtain ⟨x1_0, x1_1, x1_2, x1_3, x1_4, z1⟩ := BlkAt.c5 (hC.2.2.1)
            have hz0 : BlkAt W (pb + 1) 46 #[.string (mkS rf.bs), .int .i64 (rf.e : Nat)] := hC.2.2.2.1
            obtain ⟨b0_0, b0_1, zz0⟩ := BlkAt.c2 hz0
            have hz1 : BlkAt W (pb + 2) 35 #[.string ⟨#[]⟩, .string ⟨#[]⟩, .string ⟨#[]⟩, .bool false, .slice none 0 0] := hC.2.2.2.2
            obtain ⟨b1_0, b1_1, b1_2, b1_3, b1_4, zz1⟩ := BlkAt.c5 hz1
            have fs : Fr (fun k => k = pb + 1 ∨ k = pb + 2) W (((((W.setCell ⟨pb + 2, 0, none⟩ (.string u.name)).setCell ⟨pb + 2, 1, none⟩ (.string u.hash)).setCell ⟨pb + 2, 2, none⟩ (.string u.mail)).setCell ⟨pb + 2, 3, none⟩ (.bool u.dis)).setCell ⟨pb + 2, 4, none⟩ (.slice A n c)) := ((((((Fr.refl (fun k => k = pb + 1 ∨ k = pb + 2) W)).setCell (p := ⟨pb + 2, 0, none⟩) (Or.inl (by simp)) (.string u.name)).setCell (p := ⟨pb + 2, 1, none⟩) (Or.inl (by simp)) (.string u.hash)).setCell (p := ⟨pb + 2, 2, none⟩) (Or.inl (by simp)) (.string u.mail)).setCell (p := ⟨pb + 2, 3, none⟩) (Or.inl (by simp)) (.bool u.dis)).setCell (p := ⟨pb + 2, 4, none⟩) (Or.inl (by simp)) (.slice A n c)
            have hn0 : BlkAt (((((W.setCell ⟨pb + 2, 0, none⟩ (.string u.name)).setCell ⟨pb + 2, 1, none⟩ (.string u.hash)).setCell ⟨pb + 2, 2, none⟩ (.string u.mail)).setCell ⟨pb + 2, 3, none⟩ (.bool u.dis)).setCell ⟨pb + 2, 4, none⟩ (.slice A n c)) (pb + 1) 46 #[.string (mkS rf.bs), .int .i64 (rf.e : Nat)] := (((((hz0).fr (fr_set1 _ (pb + 2) 0 (.string u.name)) (by unfold eqB; omega)).fr (fr_set1 _ (pb + 2) 1 (.string u.hash)) (by unfold eqB; omega)).fr (fr_set1 _ (pb + 2) 2 (.string u.mail)) (by unfold eqB; omega)).fr (fr_set1 _ (pb + 2) 3 (.bool u.dis)) (by unfold eqB; omega)).fr (fr_set1 _ (pb + 2) 4 (.slice A n c)) (by unfold eqB; omega)
            have hn1 : BlkAt (((((W.setCell ⟨pb + 2, 0, none⟩ (.string u.name)).setCell ⟨pb + 2, 1, none⟩ (.string u.hash)).setCell ⟨pb + 2, 2, none⟩ (.string u.mail)).setCell ⟨pb + 2, 3, none⟩ (.bool u.dis)).setCell ⟨pb + 2, 4, none⟩ (.slice A n c)) (pb + 2) 35 #[.string u.name, .string u.hash, .string u.mail, .bool u.dis, .slice A n c] := (((((hz1).set 0 (.string u.name)).set 1 (.string u.hash)).set 2 (.string u.mail)).set 3 (.bool u.dis)).set 4 (.slice A n c)
            go_wp2_with fail
            exact hK undef _ fs ⟨hC.1.then' fs, (hC.2.1).fr fs (by omega), (hC.2.2.1).fr fs (by omega), hn0, hn1⟩ trivial
        · intro vs w8 fw8 cw8 hV
          have v61 : vs 0 = _ := hV 0 _ _ rfl rfl (by decide)
          have v62 : vs 1 = _ := hV 1 _ _ rfl rfl (by decide)
          clear hV
          replace hR : BlkAt w8 (pb) 46 #[.string (mkS rf.bs), .int .i64 (rf.e : Nat)] := cw8.2.1
          replace h7 : BlkAt w8 (pb + 4) 35 #[.string u.name, .string u.hash, .string u.mail, .bool u.dis, .slice A n c] := cw8.2.2.1
          replace h4 : BlkAt w8 (pb + 1) 46 #[.string (mkS rf.bs), .int .i64 (rf.e : Nat)] := cw8.2.2.2.1
          replace h5 : BlkAt w8 (pb + 2) 35 #[.string u.name, .string u.hash, .string u.mail, .bool u.dis, .slice A n c] := cw8.2.2.2.2
          replace F := F.trans fw8 (fun i hi h => by omega)
          clear cw8
          simp only [putL, Act.put, Nat.reduceAdd, List.setIfInBounds_toArray, List.set_cons_zero, List.set_cons_succ, v61, v62]
          go_wp2_with fail
          refine bodyPost_ret (v := .tuple #[.agg #[.string (mkS rf.bs), .int .i64 (rf.e : Nat)], .agg #[.string u.name, .string u.hash, .string u.mail, .bool u.dis, .slice A n c]]) (results_cc hres.out rfl rfl (load_blk h4 Tryd.underlying46 rfl (by kernel_rfl)) (load_blk h5 Tryd.underlying35 rfl (by kernel_rfl))) rfl ?_
          rw [HG.out]
          exact ⟨A, n, c, rfl, HN, hn, hrow.fr fw8 (fun a e _ _ h => by have := HAB.out a e; omega), F⟩
      · have he : rf.e ≠ 0 := fun h => by rw [h] at hb; simp at hb
        rw [if_neg he] at HG
        clear he
        go_wp2_with fail
        clear y0 y1 yf
        apply wp_region_calm (R := Fr (fun k => k = pb + 1 ∨ k = pb + 2)) (C := fun q W => Fr (fun k => k = pb + 1 ∨ k = pb + 2) w9 W ∧ BlkAt W (pb) 46 #[.string (mkS rf.bs), .int .i64 (rf.e : Nat)] ∧ BlkAt W (pb + 3) 35 #[.string ⟨#[]⟩, .string ⟨#[]⟩, .string ⟨#[]⟩, .bool false, .slice none 0 0] ∧ BlkAt W (pb + 1) 46 (if q = 0 then #[.string ⟨#[]⟩, .int .i64 0] else if q = 1 then #[.string (mkS rf.bs), .int .i64 (rf.e : Nat)] else #[.string (mkS rf.bs), .int .i64 (rf.e : Nat)]) ∧ BlkAt W (pb + 2) 35 (if q = 0 then #[.string ⟨#[]⟩, .string ⟨#[]⟩, .string ⟨#[]⟩, .bool false, .slice none 0 0] else if q = 1 then #[.string ⟨#[]⟩, .string ⟨#[]⟩, .string ⟨#[]⟩, .bool false, .slice none 0 0] else #[.string ⟨#[]⟩, .string ⟨#[]⟩, .string ⟨#[]⟩, .bool false, .slice none 0 0])) [false, false, true, true]
          [eqv _, eqv _, anyv, anyv]
          (by kernel_rfl) (by kernel_rfl) (fun _ _ _ h1 h2 => h1.then' h2) ((Fr.refl _ _).drew) ⟨(Fr.refl _ _).drew, hR, h6, h4, h5⟩ (by kernel_rfl)
        · refine ⟨?_, ?_, ?_, ?_, trivial⟩
          · rw [if_neg (by decide)]; intro kq
            intro a W K hC hd hK
            have d2 : a.tmps[2]?.getD undef = .pointer (some ⟨pb, 0, none⟩) := hd 2 (by decide)
            refine wpOp_plain rfl rfl ?_
            obtain ⟨x0_0, x0_1, z0⟩ := BlkAt.c2 (hC.2.1)
            obtain ⟨x1_0, x1_1, x1_2, x1_3, x1_4, z1⟩ := BlkAt.c5 (hC.2.2.1)
            go_wp2_with fail
            exact hK _ _ (Fr.refl _ _) hC rfl
          · rw [if_neg (by decide)]; intro kq
            intro a W K hC hd hK
            have d6 : a.tmps[6]?.getD undef = .pointer (some ⟨pb + 3, 0, none⟩) := hd 6 (by decide)
            refine wpOp_plain rfl rfl ?_
            obtain ⟨x0_0, x0_1, z0⟩ := BlkAt.c2 (hC.2.1)
            obtain ⟨x1_0, x1_1, x1_2, x1_3, x1_4, z1⟩ := BlkAt.c5 (hC.2.2.1)
            go_wp2_with fail
            exact hK _ _ (Fr.refl _ _) hC rfl
          · rw [if_pos (by decide)]
            intro a W K hC hd hK
            replace hC : (fun q W => Fr (fun k => k = pb + 1 ∨ k = pb + 2) w9 W ∧ BlkAt W (pb) 46 #[.string (mkS rf.bs), .int .i64 (rf.e : Nat)] ∧ BlkAt W (pb + 3) 35 #[.string ⟨#[]⟩, .string ⟨#[]⟩, .string ⟨#[]⟩, .bool false, .slice none 0 0] ∧ BlkAt W (pb + 1) 46 (if q = 0 then #[.string ⟨#[]⟩, .int .i64 0] else if q = 1 then #[.string (mkS rf.bs), .int .i64 (rf.e : Nat)] else #[.string (mkS rf.bs), .int .i64 (rf.e : Nat)]) ∧ BlkAt W (pb + 2) 35 (if q = 0 then #[.string ⟨#[]⟩, .string ⟨#[]⟩, .string ⟨#[]⟩, .bool false, .slice none 0 0] else if q = 1 then #[.string ⟨#[]⟩, .string ⟨#[]⟩, .string ⟨#[]⟩, .bool false, .slice none 0 0] else #[.string ⟨#[]⟩, .string ⟨#[]⟩, .string ⟨#[]⟩, .bool false, .slice none 0 0])) 0 W := hC
            have d4 : a.tmps[4]?.getD undef = .pointer (some ⟨pb + 1, 0, none⟩) := hd 4 (by decide)
            have d59 : _ = _ := hd 59 (by decide)
            refine wpOp_plain rfl rfl ?_
            obtain ⟨x0_0, x0_1, z0⟩ := BlkAt.c2 (hC.2.1)
            obtain ⟨x1_0, x1_1, x1_2, x1_3, x1_4, z1⟩ := BlkAt.c5 (hC.2.2.1)
            have hz0 : BlkAt W (pb + 1) 46 #[.string ⟨#[]⟩, .int .i64 0] := hC.2.2.2.1
            obtain ⟨b0_0, b0_1, zz0⟩ := BlkAt.c2 hz0
            have hz1 : BlkAt W (pb + 2) 35 #[.string ⟨#[]⟩, .string ⟨#[]⟩, .string ⟨#[]⟩, .bool false, .slice none 0 0] := hC.2.2.2.2
            obtain ⟨b1_0, b1_1, b1_2, b1_3, b1_4, zz1⟩ := BlkAt.c5 hz1
            have fs : Fr (fun k => k = pb + 1 ∨ k = pb + 2) W ((W.setCell ⟨pb + 1, 0, none⟩ (.string (mkS rf.bs))).setCell ⟨pb + 1, 1, none⟩ (.int .i64 (rf.e : Nat))) := (((Fr.refl (fun k => k = pb + 1 ∨ k = pb + 2) W)).setCell (p := ⟨pb + 1, 0, none⟩) (Or.inl (by simp)) (.string (mkS rf.bs))).setCell (p := ⟨pb + 1, 1, none⟩) (Or.inl (by simp)) (.int .i64 (rf.e : Nat))
            have hn0 : BlkAt ((W.setCell ⟨pb + 1, 0, none⟩ (.string (mkS rf.bs))).setCell ⟨pb + 1, 1, none⟩ (.int .i64 (rf.e : Nat))) (pb + 1) 46 #[.string (mkS rf.bs), .int .i64 (rf.e : Nat)] := ((hz0).set 0 (.string (mkS rf.bs))).set 1 (.int .i64 (rf.e : Nat))
            have hn1 : BlkAt ((W.setCell ⟨pb + 1, 0, none⟩ (.string (mkS rf.bs))).setCell ⟨pb + 1, 1, none⟩ (.int .i64 (rf.e : Nat))) (pb + 2) 35 #[.string ⟨#[]⟩, .string ⟨#[]⟩, .string ⟨#[]⟩, .bool false, .slice none 0 0] := ((hz1).fr (fr_set1 _ (pb + 1) 0 (.string (mkS rf.bs))) (by unfold eqB; omega)).fr (fr_set1 _ (pb + 1) 1 (.int .i64 (rf.e : Nat))) (by unfold eqB; omega)
            go_wp2_with fail
            exact hK undef _ fs ⟨hC.1.then' fs, (hC.2.1).fr fs (by omega), (hC.2.2.1).fr fs (by omega), hn0, hn1⟩ trivial
          · rw [if_pos (by decide)]
            intro a W K hC hd hK
            replace hC : (fun q W => Fr (fun k => k = pb + 1 ∨ k = pb + 2) w9 W ∧ BlkAt W (pb) 46 #[.string (mkS rf.bs), .int .i64 (rf.e : Nat)] ∧ BlkAt W (pb + 3) 35 #[.string ⟨#[]⟩, .string ⟨#[]⟩, .string ⟨#[]⟩, .bool false, .slice none 0 0] ∧ BlkAt W (pb + 1) 46 (if q = 0 then #[.string ⟨#[]⟩, .int .i64 0] else if q = 1 then #[.string (mkS rf.bs), .int .i64 (rf.e : Nat)] else #[.string (mkS rf.bs), .int .i64 (rf.e : Nat)]) ∧ BlkAt W (pb + 2) 35 (if q = 0 then #[.string ⟨#[]⟩, .string ⟨#[]⟩, .string ⟨#[]⟩, .bool false, .slice none 0 0] else if q = 1 then #[.string ⟨#[]⟩, .string ⟨#[]⟩, .string ⟨#[]⟩, .bool false, .slice none 0 0] else #[.string ⟨#[]⟩, .string ⟨#[]⟩, .string ⟨#[]⟩, .bool false, .slice none 0 0])) 1 W := hC
            have d5 : a.tmps[5]?.getD undef = .pointer (some ⟨pb + 2, 0, none⟩) := hd 5 (by decide)
            have d60 : _ = _ := hd 60 (by decide)
            refine wpOp_plain rfl rfl ?_
            obtain ⟨x0_0, x0_1, z0⟩ := BlkAt.c2 (hC.2.1)
            obtain ⟨x1_0, x1_1, x1_2, x1_3, x1_4, z1⟩ := BlkAt.c5 (hC.2.2.1)
            have hz0 : BlkAt W (pb + 1) 46 #[.string (mkS rf.bs), .int .i64 (rf.e : Nat)] := hC.2.2.2.1
            obtain ⟨b0_0, b0_1, zz0⟩ := BlkAt.c2 hz0
            have hz1 : BlkAt W (pb + 2) 35 #[.string ⟨#[]⟩, .string ⟨#[]⟩, .string ⟨#[]⟩, .bool false, .slice none 0 0] := hC.2.2.2.2
            obtain ⟨b1_0, b1_1, b1_2, b1_3, b1_4, zz1⟩ := BlkAt.c5 hz1
            have fs : Fr (fun k => k = pb + 1 ∨ k = pb + 2) W (((((W.setCell ⟨pb + 2, 0, none⟩ (.string ⟨#[]⟩)).setCell ⟨pb + 2, 1, none⟩ (.string ⟨#[]⟩)).setCell ⟨pb + 2, 2, none⟩ (.string ⟨#[]⟩)).setCell ⟨pb + 2, 3, none⟩ (.bool false)).setCell ⟨pb + 2, 4, none⟩ (.slice none 0 0)) := ((((((Fr.refl (fun k => k = pb + 1 ∨ k = pb + 2) W)).setCell (p := ⟨pb + 2, 0, none⟩) (Or.inl (by simp)) (.string ⟨#[]⟩)).setCell (p := ⟨pb + 2, 1, none⟩) (Or.inl (by simp)) (.string ⟨#[]⟩)).setCell (p := ⟨pb + 2, 2, none⟩) (Or.inl (by simp)) (.string ⟨#[]⟩)).setCell (p := ⟨pb + 2, 3, none⟩) (Or.inl (by simp)) (.bool false)).setCell (p := ⟨pb + 2, 4, none⟩) (Or.inl (by simp)) (.slice none 0 0)
            have hn0 : BlkAt (((((W.setCell ⟨pb + 2, 0, none⟩ (.string ⟨#[]⟩)).setCell ⟨pb + 2, 1, none⟩ (.string ⟨#[]⟩)).setCell ⟨pb + 2, 2, none⟩ (.string ⟨#[]⟩)).setCell ⟨pb + 2, 3, none⟩ (.bool false)).setCell ⟨pb + 2, 4, none⟩ (.slice none 0 0)) (pb + 1) 46 #[.string (mkS rf.bs), .int .i64 (rf.e : Nat)] := (((((hz0).fr (fr_set1 _ (pb + 2) 0 (.string ⟨#[]⟩)) (by unfold eqB; omega)).fr (fr_set1 _ (pb + 2) 1 (.string ⟨#[]⟩)) (by unfold eqB; omega)).fr (fr_set1 _ (pb + 2) 2 (.string ⟨#[]⟩)) (by unfold eqB; omega)).fr (fr_set1 _ (pb + 2) 3 (.bool false)) (by unfold eqB; omega)).fr (fr_set1 _ (pb + 2) 4 (.slice none 0 0)) (by unfold eqB; omega)
            have hn1 : BlkAt (((((W.setCell ⟨pb + 2, 0, none⟩ (.string ⟨#[]⟩)).setCell ⟨pb + 2, 1, none⟩ (.string ⟨#[]⟩)).setCell ⟨pb + 2, 2, none⟩ (.string ⟨#[]⟩)).setCell ⟨pb + 2, 3, none⟩ (.bool false)).setCell ⟨pb + 2, 4, none⟩ (.slice none 0 0)) (pb + 2) 35 #[.string ⟨#[]⟩, .string ⟨#[]⟩, .string ⟨#[]⟩, .bool false, .slice none 0 0] := (((((hz1).set 0 (.string ⟨#[]⟩)).set 1 (.string ⟨#[]⟩)).set 2 (.string ⟨#[]⟩)).set 3 (.bool false)).set 4 (.slice none 0 0)
            go_wp2_with fail
            exact hK undef _ fs ⟨hC.1.then' fs, (hC.2.1).fr fs (by omega), (hC.2.2.1).fr fs (by omega), hn0, hn1⟩ trivial
        · intro vs w8 fw8 cw8 hV
          have v59 : vs 0 = _ := hV 0 _ _ rfl rfl (by decide)
          have v60 : vs 1 = _ := hV 1 _ _ rfl rfl (by decide)
          clear hV
          replace hR : BlkAt w8 (pb) 46 #[.string (mkS rf.bs), .int .i64 (rf.e : Nat)] := cw8.2.1
          replace h6 : BlkAt w8 (pb + 3) 35 #[.string ⟨#[]⟩, .string ⟨#[]⟩, .string ⟨#[]⟩, .bool false, .slice none 0 0] := cw8.2.2.1
          replace h4 : BlkAt w8 (pb + 1) 46 #[.string (mkS rf.bs), .int .i64 (rf.e : Nat)] := cw8.2.2.2.1
          replace h5 : BlkAt w8 (pb + 2) 35 #[.string ⟨#[]⟩, .string ⟨#[]⟩, .string ⟨#[]⟩, .bool false, .slice none 0 0] := cw8.2.2.2.2
          replace F := F.trans fw8 (fun i hi h => by omega)
          clear cw8
          simp only [putL, Act.put, Nat.reduceAdd, List.setIfInBounds_toArray, List.set_cons_zero, List.set_cons_succ, v59, v60]
          go_wp2_with fail
          refine bodyPost_ret (v := .tuple #[.agg #[.string (mkS rf.bs), .int .i64 (rf.e : Nat)], .agg #[.string ⟨#[]⟩, .string ⟨#[]⟩, .string ⟨#[]⟩, .bool false, .slice none 0 0]]) (results_cc hres.out rfl rfl (load_blk h4 Tryd.underlying46 rfl (by kernel_rfl)) (load_blk h5 Tryd.underlying35 rfl (by kernel_rfl))) rfl ?_
          rw [HG.out]
          exact ⟨none, 0, 0, rfl, rfl, by omega, RowAt.nil _ _, F⟩
end Go.Proofs.YtahcopmdffengaaDoor
/- The reference's Get of a user, of any schema. -/
namespace Go.Proofs.YtahcopmdffengaaDoor
open Go.RowKit
theorem four_blk (w : World) (C0 C1 C2 C3 : Array Value) (T0 T1 T2 T3 : TypeId) : BlkAt ((((w.alloc (.cells C0 T0)).alloc (.cells C1 T1)).alloc (.cells C2 T2)).alloc (.cells C3 T3)) w.heap.size T0 C0 ∧
    BlkAt ((((w.alloc (.cells C0 T0)).alloc (.cells C1 T1)).alloc (.cells C2 T2)).alloc (.cells C3 T3)) (w.heap.size + 1) T1 C1 ∧ BlkAt ((((w.alloc (.cells C0 T0)).alloc (.cells C1 T1)).alloc (.cells C2 T2)).alloc (.cells C3 T3)) (w.heap.size + 2) T2 C2 ∧
    BlkAt ((((w.alloc (.cells C0 T0)).alloc (.cells C1 T1)).alloc (.cells C2 T2)).alloc (.cells C3 T3)) (w.heap.size + 3) T3 C3 ∧ Fr noB w ((((w.alloc (.cells C0 T0)).alloc (.cells C1 T1)).alloc (.cells C2 T2)).alloc (.cells C3 T3)) := by
  have n1 := BlkAt.new (w.alloc (.cells C0 T0)) C1 T1
  have n2 := BlkAt.new ((w.alloc (.cells C0 T0)).alloc (.cells C1 T1)) C2 T2
  have n3 := BlkAt.new (((w.alloc (.cells C0 T0)).alloc (.cells C1 T1)).alloc (.cells C2 T2)) C3 T3
  simp only [al_size] at n1 n2 n3
  exact ⟨(((BlkAt.new _ _ _).al _).al _).al _, (n1.al _).al _, n2.al _, n3, ((((Fr.refl noB w).alloc _).alloc _).alloc _).alloc _⟩
set_option maxRecDepth 100000 in
set_option maxHeartbeats 3200000 in
theorem getRU_bad (w : World) (r : Rd) (z : Int) (h1 : z ≠ 1) (h2 : z ≠ 2) :
    Calls Tryd.prog 33 #[.agg #[.string (mkS r.bs), .int .i64 (r.e : Nat)], .int .i64 z] w (GetRUPost w (getU z r)) := by
  have HG : Hid (getU z r = (rFail r 6, zU)) := by unfold Hid getU; rw [if_neg (by omega)]
  have hres : Hid (Tryd.f33.results = #[.cell 4 46, .cell 5 35]) := by unfold Hid; kernel_rfl
  obtain ⟨hR, h4, h5, h6, F⟩ := four_blk w #[.string (mkS r.bs), .int .i64 (r.e : Nat)] #[.string ⟨#[]⟩, .int .i64 0] #[.string ⟨#[]⟩, .string ⟨#[]⟩, .string ⟨#[]⟩, .bool false, .slice none 0 0] #[.string ⟨#[]⟩, .string ⟨#[]⟩, .string ⟨#[]⟩, .bool false, .slice none 0 0] 46 46 35 35
  have hfl := fun W => failR_calls W r 6
  obtain ⟨rf, hrf⟩ : ∃ x, rFail r 6 = x := ⟨_, rfl⟩
  rw [hrf] at HG hfl
  unfold Rd.val at hfl
  clear hrf
  rcases (show z < 1 ∨ 1 ≤ z ∧ 2 < z by omega) with h3 | ⟨h3, h4'⟩
  case' inl => have t1 : decide (z < 1) = true := decide_eq_true h3
  case' inr =>
    have t1 : decide (z < 1) = false := decide_eq_false (by omega)
    have t2 : decide (2 < z) = true := decide_eq_true h4'
    clear h4'
  all_goals
    clear h1 h2 h3
    go_enter Tryd.func33, Tryd.ntmps33
    go_upto_region 2 with fail
    generalize hwa : ((((w.alloc _).alloc _).alloc _).alloc _) = v0 at *
    obtain ⟨pb, hq⟩ : ∃ pb, w.heap.size = pb := ⟨_, rfl⟩
    have HQE := hq
    rw [hq] at hR h4 h5 h6 ⊢
    clear hwa hq
    go_wp2_with fail
    apply wp_region_calm (R := Fr (fun k => k = pb + 1 ∨ k = pb + 2)) (C := fun q W => Fr (fun k => k = pb + 1 ∨ k = pb + 2) v0 W ∧ BlkAt W (pb) 46 #[.string (mkS r.bs), .int .i64 (r.e : Nat)] ∧ BlkAt W (pb + 3) 35 #[.string ⟨#[]⟩, .string ⟨#[]⟩, .string ⟨#[]⟩, .bool false, .slice none 0 0] ∧ BlkAt W (pb + 1) 46 (if q = 0 then #[.string ⟨#[]⟩, .int .i64 0] else if q = 1 then #[.string (mkS rf.bs), .int .i64 (rf.e : Nat)] else #[.string (mkS rf.bs), .int .i64 (rf.e : Nat)]) ∧ BlkAt W (pb + 2) 35 (if q = 0 then #[.string ⟨#[]⟩, .string ⟨#[]⟩, .string ⟨#[]⟩, .bool false, .slice none 0 0] else if q = 1 then #[.string ⟨#[]⟩, .string ⟨#[]⟩, .string ⟨#[]⟩, .bool false, .slice none 0 0] else #[.string ⟨#[]⟩, .string ⟨#[]⟩, .string ⟨#[]⟩, .bool false, .slice none 0 0])) [false, false, false, true, true]
      [eqv _, eqv _, eqv _, anyv, anyv]
      (by kernel_rfl) (by kernel_rfl) (fun _ _ _ h1 h2 => h1.then' h2) ((Fr.refl _ _).drew) ⟨(Fr.refl _ _).drew, hR, h6, h4, h5⟩ (by kernel_rfl)
    · refine ⟨?_, ?_, ?_, ?_, ?_, trivial⟩
      · rw [if_neg (by decide)]; intro kq
        intro a W K hC hd hK
        have d2 : a.tmps[2]?.getD undef = .pointer (some ⟨pb, 0, none⟩) := hd 2 (by decide)
        refine wpOp_plain rfl rfl ?_
        obtain ⟨x0_0, x0_1, z0⟩ := BlkAt.c2 (hC.2.1)
        obtain ⟨x1_0, x1_1, x1_2, x1_3, x1_4, z1⟩ := BlkAt.c5 (hC.2.2.1)
        go_wp2_with fail
        exact hK _ _ (Fr.refl _ _) hC rfl
      · rw [if_neg (by decide)]; intro kq
        intro a W K hC hd hK
        have d15 : _ = _ := hd 15 (by decide)
        refine wpOp_plain rfl rfl ?_
        obtain ⟨x0_0, x0_1, z0⟩ := BlkAt.c2 (hC.2.1)
        obtain ⟨x1_0, x1_1, x1_2, x1_3, x1_4, z1⟩ := BlkAt.c5 (hC.2.2.1)
        go_wp2_with fail
        refine (hfl W).mono ?_
        rintro e9 w9a ⟨rfl, f9⟩
        exact hK _ _ (f9.mono fun _ _ h => h.elim) ⟨hC.1.then' (f9.mono fun _ _ h => h.elim), hC.2.1.fr f9 id, hC.2.2.1.fr f9 id, hC.2.2.2.1.fr f9 id, hC.2.2.2.2.fr f9 id⟩ rfl
      · rw [if_neg (by decide)]; intro kq
        intro a W K hC hd hK
        have d6 : a.tmps[6]?.getD undef = .pointer (some ⟨pb + 3, 0, none⟩) := hd 6 (by decide)
        refine wpOp_plain rfl rfl ?_
        obtain ⟨x0_0, x0_1, z0⟩ := BlkAt.c2 (hC.2.1)
        obtain ⟨x1_0, x1_1, x1_2, x1_3, x1_4, z1⟩ := BlkAt.c5 (hC.2.2.1)
        go_wp2_with fail
        exact hK _ _ (Fr.refl _ _) hC rfl
      · rw [if_pos (by decide)]
        intro a W K hC hd hK
        replace hC : (fun q W => Fr (fun k => k = pb + 1 ∨ k = pb + 2) v0 W ∧ BlkAt W (pb) 46 #[.string (mkS r.bs), .int .i64 (r.e : Nat)] ∧ BlkAt W (pb + 3) 35 #[.string ⟨#[]⟩, .string ⟨#[]⟩, .string ⟨#[]⟩, .bool false, .slice none 0 0] ∧ BlkAt W (pb + 1) 46 (if q = 0 then #[.string ⟨#[]⟩, .int .i64 0] else if q = 1 then #[.string (mkS rf.bs), .int .i64 (rf.e : Nat)] else #[.string (mkS rf.bs), .int .i64 (rf.e : Nat)]) ∧ BlkAt W (pb + 2) 35 (if q = 0 then #[.string ⟨#[]⟩, .string ⟨#[]⟩, .string ⟨#[]⟩, .bool false, .slice none 0 0] else if q = 1 then #[.string ⟨#[]⟩, .string ⟨#[]⟩, .string ⟨#[]⟩, .bool false, .slice none 0 0] else #[.string ⟨#[]⟩, .string ⟨#[]⟩, .string ⟨#[]⟩, .bool false, .slice none 0 0])) 0 W := hC
        have d4 : a.tmps[4]?.getD undef = .pointer (some ⟨pb + 1, 0, none⟩) := hd 4 (by decide)
        have d16 : _ = _ := hd 16 (by decide)
        refine wpOp_plain rfl rfl ?_
        obtain ⟨x0_0, x0_1, z0⟩ := BlkAt.c2 (hC.2.1)
        obtain ⟨x1_0, x1_1, x1_2, x1_3, x1_4, z1⟩ := BlkAt.c5 (hC.2.2.1)
        have hz0 : BlkAt W (pb + 1) 46 #[.string ⟨#[]⟩, .int .i64 0] := hC.2.2.2.1
        obtain ⟨b0_0, b0_1, zz0⟩ := BlkAt.c2 hz0
        have hz1 : BlkAt W (pb + 2) 35 #[.string ⟨#[]⟩, .string ⟨#[]⟩, .string ⟨#[]⟩, .bool false, .slice none 0 0] := hC.2.2.2.2
        obtain ⟨b1_0, b1_1, b1_2, b1_3, b1_4, zz1⟩ := BlkAt.c5 hz1
        have fs : Fr (fun k => k = pb + 1 ∨ k = pb + 2) W ((W.setCell ⟨pb + 1, 0, none⟩ (.string (mkS rf.bs))).setCell ⟨pb + 1, 1, none⟩ (.int .i64 (rf.e : Nat))) := (((Fr.refl (fun k => k = pb + 1 ∨ k = pb + 2) W)).setCell (p := ⟨pb + 1, 0, none⟩) (Or.inl (by simp)) (.string (mkS rf.bs))).setCell (p := ⟨pb + 1, 1, none⟩) (Or.inl (by simp)) (.int .i64 (rf.e : Nat))
        have hn0 : BlkAt ((W.setCell ⟨pb + 1, 0, none⟩ (.string (mkS rf.bs))).setCell ⟨pb + 1, 1, none⟩ (.int .i64 (rf.e : Nat))) (pb + 1) 46 #[.string (mkS rf.bs), .int .i64 (rf.e : Nat)] := ((hz0).set 0 (.string (mkS rf.bs))).set 1 (.int .i64 (rf.e : Nat))
        have hn1 : BlkAt ((W.setCell ⟨pb + 1, 0, none⟩ (.string (mkS rf.bs))).setCell ⟨pb + 1, 1, none⟩ (.int .i64 (rf.e : Nat))) (pb + 2) 35 #[.string ⟨#[]⟩, .string ⟨#[]⟩, .string ⟨#[]⟩, .bool false, .slice none 0 0] := ((hz1).fr (fr_set1 _ (pb + 1) 0 (.string (mkS rf.bs))) (by unfold eqB; omega)).fr (fr_set1 _ (pb + 1) 1 (.int .i64 (rf.e : Nat))) (by unfold eqB; omega)
        go_wp2_with fail
        exact hK undef _ fs ⟨hC.1.then' fs, (hC.2.1).fr fs (by omega), (hC.2.2.1).fr fs (by omega), hn0, hn1⟩ trivial
      · rw [if_pos (by decide)]
        intro a W K hC hd hK
        replace hC : (fun q W => Fr (fun k => k = pb + 1 ∨ k = pb + 2) v0 W ∧ BlkAt W (pb) 46 #[.string (mkS r.bs), .int .i64 (r.e : Nat)] ∧ BlkAt W (pb + 3) 35 #[.string ⟨#[]⟩, .string ⟨#[]⟩, .string ⟨#[]⟩, .bool false, .slice none 0 0] ∧ BlkAt W (pb + 1) 46 (if q = 0 then #[.string ⟨#[]⟩, .int .i64 0] else if q = 1 then #[.string (mkS rf.bs), .int .i64 (rf.e : Nat)] else #[.string (mkS rf.bs), .int .i64 (rf.e : Nat)]) ∧ BlkAt W (pb + 2) 35 (if q = 0 then #[.string ⟨#[]⟩, .string ⟨#[]⟩, .string ⟨#[]⟩, .bool false, .slice none 0 0] else if q = 1 then #[.string ⟨#[]⟩, .string ⟨#[]⟩, .string ⟨#[]⟩, .bool false, .slice none 0 0] else #[.string ⟨#[]⟩, .string ⟨#[]⟩, .string ⟨#[]⟩, .bool false, .slice none 0 0])) 1 W := hC
        have d5 : a.tmps[5]?.getD undef = .pointer (some ⟨pb + 2, 0, none⟩) := hd 5 (by decide)
        have d17 : _ = _ := hd 17 (by decide)
        refine wpOp_plain rfl rfl ?_
        obtain ⟨x0_0, x0_1, z0⟩ := BlkAt.c2 (hC.2.1)
        obtain ⟨x1_0, x1_1, x1_2, x1_3, x1_4, z1⟩ := BlkAt.c5 (hC.2.2.1)
        have hz0 : BlkAt W (pb + 1) 46 #[.string (mkS rf.bs), .int .i64 (rf.e : Nat)] := hC.2.2.2.1
        obtain ⟨b0_0, b0_1, zz0⟩ := BlkAt.c2 hz0
        have hz1 : BlkAt W (pb + 2) 35 #[.string ⟨#[]⟩, .string ⟨#[]⟩, .string ⟨#[]⟩, .bool false, .slice none 0 0] := hC.2.2.2.2
        obtain ⟨b1_0, b1_1, b1_2, b1_3, b1_4, zz1⟩ := BlkAt.c5 hz1
        have fs : Fr (fun k => k = pb + 1 ∨ k = pb + 2) W (((((W.setCell ⟨pb + 2, 0, none⟩ (.string ⟨#[]⟩)).setCell ⟨pb + 2, 1, none⟩ (.string ⟨#[]⟩)).setCell ⟨pb + 2, 2, none⟩ (.string ⟨#[]⟩)).setCell ⟨pb + 2, 3, none⟩ (.bool false)).setCell ⟨pb + 2, 4, none⟩ (.slice none 0 0)) := ((((((Fr.refl (fun k => k = pb + 1 ∨ k = pb + 2) W)).setCell (p := ⟨pb + 2, 0, none⟩) (Or.inl (by simp)) (.string ⟨#[]⟩)).setCell (p := ⟨pb + 2, 1, none⟩) (Or.inl (by simp)) (.string ⟨#[]⟩)).setCell (p := ⟨pb + 2, 2, none⟩) (Or.inl (by simp)) (.string ⟨#[]⟩)).setCell (p := ⟨pb + 2, 3, none⟩) (Or.inl (by simp)) (.bool false)).setCell (p := ⟨pb + 2, 4, none⟩) (Or.inl (by simp)) (.slice none 0 0)
        have hn0 : BlkAt (((((W.setCell ⟨pb + 2, 0, none⟩ (.string ⟨#[]⟩)).setCell ⟨pb + 2, 1, none⟩ (.string ⟨#[]⟩)).setCell ⟨pb + 2, 2, none⟩ (.string ⟨#[]⟩)).setCell ⟨pb + 2, 3, none⟩ (.bool false)).setCell ⟨pb + 2, 4, none⟩ (.slice none 0 0)) (pb + 1) 46 #[.string (mkS rf.bs), .int .i64 (rf.e : Nat)] := (((((hz0).fr (fr_set1 _ (pb + 2) 0 (.string ⟨#[]⟩)) (by unfold eqB; omega)).fr (fr_set1 _ (pb + 2) 1 (.string ⟨#[]⟩)) (by unfold eqB; omega)).fr (fr_set1 _ (pb + 2) 2 (.string ⟨#[]⟩)) (by unfold eqB; omega)).fr (fr_set1 _ (pb + 2) 3 (.bool false)) (by unfold eqB; omega)).fr (fr_set1 _ (pb + 2) 4 (.slice none 0 0)) (by unfold eqB; omega)
        have hn1 : BlkAt (((((W.setCell ⟨pb + 2, 0, none⟩ (.string ⟨#[]⟩)).setCell ⟨pb + 2, 1, none⟩ (.string ⟨#[]⟩)).setCell ⟨pb + 2, 2, none⟩ (.string ⟨#[]⟩)).setCell ⟨pb + 2, 3, none⟩ (.bool false)).setCell ⟨pb + 2, 4, none⟩ (.slice none 0 0)) (pb + 2) 35 #[.string ⟨#[]⟩, .string ⟨#[]⟩, .string ⟨#[]⟩, .bool false, .slice none 0 0] := (((((hz1).set 0 (.string ⟨#[]⟩)).set 1 (.string ⟨#[]⟩)).set 2 (.string ⟨#[]⟩)).set 3 (.bool false)).set 4 (.slice none 0 0)
        go_wp2_with fail
        exact hK undef _ fs ⟨hC.1.then' fs, (hC.2.1).fr fs (by omega), (hC.2.2.1).fr fs (by omega), hn0, hn1⟩ trivial
    · intro vs w8 fw8 cw8 hV
      have v15 : vs 0 = _ := hV 0 _ _ rfl rfl (by decide)
      have v16 : vs 1 = _ := hV 1 _ _ rfl rfl (by decide)
      have v17 : vs 2 = _ := hV 2 _ _ rfl rfl (by decide)
      clear hV
      replace hR : BlkAt w8 (pb) 46 #[.string (mkS r.bs), .int .i64 (r.e : Nat)] := cw8.2.1
      replace h6 : BlkAt w8 (pb + 3) 35 #[.string ⟨#[]⟩, .string ⟨#[]⟩, .string ⟨#[]⟩, .bool false, .slice none 0 0] := cw8.2.2.1
      replace h4 : BlkAt w8 (pb + 1) 46 #[.string (mkS rf.bs), .int .i64 (rf.e : Nat)] := cw8.2.2.2.1
      replace h5 : BlkAt w8 (pb + 2) 35 #[.string ⟨#[]⟩, .string ⟨#[]⟩, .string ⟨#[]⟩, .bool false, .slice none 0 0] := cw8.2.2.2.2
      replace F := F.trans fw8 (fun i hi h => by omega)
      clear cw8
      simp only [putL, Act.put, Nat.reduceAdd, List.setIfInBounds_toArray, List.set_cons_zero, List.set_cons_succ, v15, v16, v17]
      go_wp2_with fail
      refine bodyPost_ret (v := .tuple #[.agg #[.string (mkS rf.bs), .int .i64 (rf.e : Nat)], .agg #[.string ⟨#[]⟩, .string ⟨#[]⟩, .string ⟨#[]⟩, .bool false, .slice none 0 0]]) (results_cc hres.out rfl rfl (load_blk h4 Tryd.underlying46 rfl (by kernel_rfl)) (load_blk h5 Tryd.underlying35 rfl (by kernel_rfl))) rfl ?_
      rw [HG.out]
      exact ⟨none, 0, 0, rfl, rfl, by omega, RowAt.nil _ _, F⟩
theorem getRU_calls (w : World) (r : Rd) (z : Int) (hi : r.inv) (hl : r.bs.length ≤ 1000000000) :
    Calls Tryd.prog 33 #[.agg #[.string (mkS r.bs), .int .i64 (r.e : Nat)], .int .i64 z] w (GetRUPost w (getU z r)) := by
  by_cases h1 : z = 1 ∨ z = 2
  · exact getRU_good w r z hi hl h1
  · exact getRU_bad w r z (fun h => h1 (.inl h)) (fun h => h1 (.inr h))
theorem getU_calls (w : World) (S : Nat → Prop) (p : Nat) (r : Rd) (z : Int) (h : RdAt w S p r) (hS : ∀ k, S k → k < w.heap.size) :
    Calls Tryd.prog 32 #[.pointer (some ⟨p, 0, none⟩), .int .i64 z] w (GetUPost w S p (getU z r)) := by
  by_cases h1 : z = 1 ∨ z = 2
  · exact getU_good w S p r z h hS h1
  · exact getU_bad w S p r z h hS (fun h => h1 (.inl h)) (fun h => h1 (.inr h))
end Go.Proofs.YtahcopmdffengaaDoor
/- interrexlaw06.UserGets: the walk. -/
namespace Go.Proofs.YtahcopmdffengaaDoor
open Go.RowKit
theorem RdAt.inn06 {w : World} {S : Nat → Prop} {p : Nat} {r : Rd} (h : RdAt w S p r) : RdAt w (fun k => S k ∧ k < w.heap.size) p r := by
  obtain ⟨A, n, c, T, h⟩ := h
  refine ⟨A, n, c, T, h.len, h.heap, h.row, h.cap, h.max, h.nil, ⟨h.inS, (Array.getElem?_eq_some_iff.1 h.heap).1⟩, fun h0 a e => ?_, h.err⟩
  obtain ⟨h1, h2⟩ := h.rowS h0 a e
  subst e
  exact ⟨⟨h1, h.row.lt (by rw [bcells_length, h.len.out]; exact h0)⟩, h2⟩
set_option maxRecDepth 100000 in
set_option maxHeartbeats 3200000 in
theorem getsU_walk (w : World) (z : Int) (B : Option Addr) (n c : Nat) (bs : List UInt8) (hx : RowAt w B (bcells bs)) (hn : bs.length = n) (hB : B = none → n = 0 ∧ c = 0) :
    Calls Tryd.prog 9 #[.int .i64 z, .slice B n c] w (BoolPost w true) := by
  have hl := fun W => lives06_calls W
  obtain ⟨b0, hb0⟩ : ∃ b, decide ((300 : Int) < n) = b := ⟨_, rfl⟩
  cases b0
  · have hn300 : n ≤ 300 := by have := of_decide_eq_false hb0; omega
    have HN := hid hn
    have hof := fun W f => of_calls W B n c bs (hx.fr0 f) hn hB (by omega)
    have hrg : ∀ W, Calls Tryd.prog 33 #[.agg #[.string (mkS bs), .int .i64 0], .int .i64 z] W (GetRUPost W (getU z ⟨bs, 0⟩)) := fun W => getRU_calls W ⟨bs, 0⟩ z (fun h => absurd rfl h) (by simp only; omega)
    have hug := fun W S p h hS => getU_calls W S p ⟨bs, 0⟩ z h hS
    generalize getU z ⟨bs, 0⟩ = g at *
    obtain ⟨r, u⟩ := g
    unfold GetRUPost at hrg
    unfold GetUPost at hug
    simp only at hrg hug
    clear hn
    go_enter Tryd.func9, Tryd.ntmps9
    go_wp2_with fail
    refine (hl w).mono ?_
    rintro e w1 ⟨rfl, f1⟩
    go_wp2_with fail
    refine (hof w1 f1).mono ?_
    rintro e w2 ⟨p, rfl, hp1, hp2, hr2, f2⟩
    have hr2' := hr2.inn06
    replace f2 := f1.then' f2
    have hs1 := f1.size
    go_wp2_with fail
    refine (hug w2 _ p hr2' (fun k hk => hk.2)).mono ?_
    rintro e w3 ⟨A, m, d, rfl, HM, hm, hrow, hr3, f3⟩
    have f3w : Fr noB w w3 := f2.trans f3 (fun i hi h => by have := h.1; unfold upB at this; omega)
    generalize hS : (fun k => upB w1.heap.size k ∧ k < w2.heap.size) = S at *
    have h6 : BlkAt (w3.alloc (.cells (u.C (.slice A m d)) 35)) w3.heap.size 35 (u.C (.slice A m d)) := BlkAt.new _ _ _
    unfold UsV.C at *
    have f4 := f3w.alloc (.cells #[.string u.name, .string u.hash, .string u.mail, .bool u.dis, .slice A m d] 35)
    have hr4 := hr3.fr ((Fr.refl noB w3).alloc (.cells #[.string u.name, .string u.hash, .string u.mail, .bool u.dis, .slice A m d] 35)) (fun _ _ _ => id)
    have hrow4 := hrow.fr0 ((Fr.refl noB w3).alloc (.cells #[.string u.name, .string u.hash, .string u.mail, .bool u.dis, .slice A m d] 35))
    obtain ⟨b6, hb6⟩ : ∃ x, w3.heap.size = x := ⟨_, rfl⟩
    rw [hb6] at h6
    go_upto_region 5 with fail
    generalize hw4 : (w3.alloc _) = w4 at *
    clear hw4 hb6 hr3 hr2 hr2' f1 f2 f3 f3w hrow hug hof hl
    have RS := Tryd.toStr (hx.fr0 f4) HN.out c
    go_wp2_with fail
    refine (hrg w4).mono ?_
    rintro e w5 ⟨A2, m2, d2, rfl, HM2, hm2, hrow5, f5⟩
    have h6' := h6.fr f5 id
    have hr5 := hr4.fr f5 (fun _ _ _ => id)
    have hrow4' := hrow4.fr0 f5
    have f5w := f4.then' f5
    obtain rfl : m = m2 := HM.out.symm.trans HM2.out
    obtain ⟨h7, h8, f6⟩ := two_blk w5 #[.string (mkS r.bs), .int .i64 (r.e : Nat)] #[.string u.name, .string u.hash, .string u.mail, .bool u.dis, .slice A2 m d2] 46 35
    have hq6 := h6'.lt
    clear h6 hr4 hrow4 f4 f5 hrg RS
    go_upto_region 6 with fail
    have hx6 := ((Fr.refl noB w5).alloc (.cells #[.string (mkS r.bs), .int .i64 (r.e : Nat)] 46)).alloc (.cells #[.string u.name, .string u.hash, .string u.mail, .bool u.dis, .slice A2 m d2] 35)
    have hb6 := h6'.fr hx6 id
    have hr6 := hr5.fr hx6 (fun _ _ _ => id)
    have hA6 := hrow4'.fr0 hx6
    have hB6 := hrow5.fr0 hx6
    have f6w := f5w.then' hx6
    clear hx6 h6' hr5 hrow4' hrow5 f5w f6
    obtain ⟨b7, hb7⟩ : ∃ x, w5.heap.size = x := ⟨_, rfl⟩
    rw [hb7] at h7 h8 ⊢
    generalize ((w5.alloc _).alloc _) = w6 at *
    clear hb7
    have hss := fun W f => sameR_calls W u u A A2 d d2 m m (hA6.fr0 f) (hB6.fr0 f) HM HM2 (by omega)
    have hsu : sameU u u = true := by unfold sameU; simp
    rw [hsu] at hss
    unfold UsV.C at hss
    have hms := mkS_size r.bs
    clear hsu hA6 hB6
    apply wp_region_calm (R := Fr noB) (C := fun _ W => Fr noB w6 W ∧ BlkAt W b6 35 #[.string u.name, .string u.hash, .string u.mail, .bool u.dis, .slice A m d] ∧ BlkAt W b7 46 #[.string (mkS r.bs), .int .i64 (r.e : Nat)] ∧ BlkAt W (b7 + 1) 35 #[.string u.name, .string u.hash, .string u.mail, .bool u.dis, .slice A2 m d2] ∧ RdAt W S p r) [false, false, false, false, false, false, false, false, false, false, false, false, false, false, false, false, false, false, false]
      [eqv _, eqv _, eqv _, eqv _, eqv _, eqv _, eqv _, eqv _, eqv _, eqv _, eqv _, eqv _, eqv _, eqv _, eqv _, eqv _, eqv _, eqv _, eqv _]
      (by kernel_rfl) (by kernel_rfl) (fun _ _ _ h1 h2 => h1.then' h2) ((Fr.refl _ _).drew) ⟨(Fr.refl _ _).drew, hb6, h7, h8, hr6.fr ((Fr.refl noB _).drew) (fun _ _ _ => id)⟩ (by kernel_rfl)
    · refine ⟨?_, ?_, ?_, ?_, ?_, ?_, ?_, ?_, ?_, ?_, ?_, ?_, ?_, ?_, ?_, ?_, ?_, ?_, ?_, trivial⟩
      · rw [if_neg (by decide)]; intro kq
        intro a W K hC hd hK
        have d6 : a.tmps[6]?.getD undef = .pointer (some ⟨b6, 0, none⟩) := hd 6 (by decide)
        refine wpOp_plain rfl rfl ?_
        obtain ⟨x0, x1, x2, x3, x4, xf⟩ := BlkAt.c5 hC.2.1
        obtain ⟨y0, y1, yf⟩ := BlkAt.c2 hC.2.2.1
        obtain ⟨z0, z1, z2, z3, z4, zf⟩ := BlkAt.c5 hC.2.2.2.1
        go_wp2_with fail
        exact hK _ _ (Fr.refl _ _) hC rfl
      · rw [if_neg (by decide)]; intro kq
        intro a W K hC hd hK
        have d8 : a.tmps[8]?.getD undef = .pointer (some ⟨b7 + 1, 0, none⟩) := hd 8 (by decide)
        refine wpOp_plain rfl rfl ?_
        obtain ⟨x0, x1, x2, x3, x4, xf⟩ := BlkAt.c5 hC.2.1
        obtain ⟨y0, y1, yf⟩ := BlkAt.c2 hC.2.2.1
        obtain ⟨z0, z1, z2, z3, z4, zf⟩ := BlkAt.c5 hC.2.2.2.1
        go_wp2_with fail
        exact hK _ _ (Fr.refl _ _) hC rfl
      · rw [if_neg (by decide)]; intro kq
        intro a W K hC hd hK
        have d30 : _ = _ := hd 30 (by decide)
        have d31 : _ = _ := hd 31 (by decide)
        refine wpOp_plain rfl rfl ?_
        obtain ⟨x0, x1, x2, x3, x4, xf⟩ := BlkAt.c5 hC.2.1
        obtain ⟨y0, y1, yf⟩ := BlkAt.c2 hC.2.2.1
        obtain ⟨z0, z1, z2, z3, z4, zf⟩ := BlkAt.c5 hC.2.2.2.1
        go_wp2_with fail
        refine (hss W hC.1).mono ?_
        rintro e9 w9 ⟨rfl, f9⟩
        exact hK _ _ f9 ⟨hC.1.then' f9, hC.2.1.fr f9 id, hC.2.2.1.fr f9 id, hC.2.2.2.1.fr f9 id, hC.2.2.2.2.fr f9 (fun _ _ _ => id)⟩ rfl
      · rw [if_neg (by decide)]; intro kq
        exact calm_mv 32 rfl rfl (Or.inl rfl) (Fr.refl _) (by decide) fun v w hd => hd
      · rw [if_neg (by decide)]; intro kq
        intro a W K hC hd hK
        have d5 : a.tmps[5]?.getD undef = .pointer (some ⟨p, 0, none⟩) := hd 5 (by decide)
        have d33 : _ = _ := hd 33 (by decide)
        first | (exact wpOp_skip rfl (wanted_of (want := true) (b := false) rfl rfl (by rw [eval_get]; exact d33)) (hK _ _ (Fr.refl _ _) hC rfl)) | (refine wpOp_want rfl (wanted_of (want := true) (b := true) rfl rfl (by rw [eval_get]; exact d33)) ?_)
        all_goals (
          go_wp2_with fail
          exact hK _ _ (Fr.refl _ _) hC rfl)
      · rw [if_neg (by decide)]; intro kq
        intro a W K hC hd hK
        have d34 : _ = _ := hd 34 (by decide)
        have d33 : _ = _ := hd 33 (by decide)
        first | (exact wpOp_skip rfl (wanted_of (want := true) (b := false) rfl rfl (by rw [eval_get]; exact d33)) (hK _ _ (Fr.refl _ _) hC rfl)) | (refine wpOp_want rfl (wanted_of (want := true) (b := true) rfl rfl (by rw [eval_get]; exact d33)) ?_)
        all_goals (
          obtain ⟨x0, x1, x2, x3, x4, xf⟩ := BlkAt.c5 hC.2.1
          obtain ⟨y0, y1, yf⟩ := BlkAt.c2 hC.2.2.1
          obtain ⟨z0, z1, z2, z3, z4, zf⟩ := BlkAt.c5 hC.2.2.2.1
          go_wp2_with fail
          refine (errRd_calls W S p r hC.2.2.2.2).mono ?_
          rintro e9 w9 ⟨rfl, rfl⟩
          exact hK _ _ (Fr.refl _ _) hC rfl)
      · rw [if_neg (by decide)]; intro kq
        intro a W K hC hd hK
        have d7 : a.tmps[7]?.getD undef = .pointer (some ⟨b7, 0, none⟩) := hd 7 (by decide)
        have d33 : _ = _ := hd 33 (by decide)
        first | (exact wpOp_skip rfl (wanted_of (want := true) (b := false) rfl rfl (by rw [eval_get]; exact d33)) (hK _ _ (Fr.refl _ _) hC rfl)) | (refine wpOp_want rfl (wanted_of (want := true) (b := true) rfl rfl (by rw [eval_get]; exact d33)) ?_)
        all_goals (
          obtain ⟨x0, x1, x2, x3, x4, xf⟩ := BlkAt.c5 hC.2.1
          obtain ⟨y0, y1, yf⟩ := BlkAt.c2 hC.2.2.1
          obtain ⟨z0, z1, z2, z3, z4, zf⟩ := BlkAt.c5 hC.2.2.2.1
          go_wp2_with fail
          exact hK _ _ (Fr.refl _ _) hC rfl)
      · rw [if_neg (by decide)]; intro kq
        intro a W K hC hd hK
        have d36 : _ = _ := hd 36 (by decide)
        have d33 : _ = _ := hd 33 (by decide)
        first | (exact wpOp_skip rfl (wanted_of (want := true) (b := false) rfl rfl (by rw [eval_get]; exact d33)) (hK _ _ (Fr.refl _ _) hC rfl)) | (refine wpOp_want rfl (wanted_of (want := true) (b := true) rfl rfl (by rw [eval_get]; exact d33)) ?_)
        all_goals (
          obtain ⟨x0, x1, x2, x3, x4, xf⟩ := BlkAt.c5 hC.2.1
          obtain ⟨y0, y1, yf⟩ := BlkAt.c2 hC.2.2.1
          obtain ⟨z0, z1, z2, z3, z4, zf⟩ := BlkAt.c5 hC.2.2.2.1
          go_wp2_with fail
          exact hK _ _ (Fr.refl _ _) hC rfl)
      · rw [if_neg (by decide)]; intro kq
        intro a W K hC hd hK
        have d35 : _ = _ := hd 35 (by decide)
        have d37 : _ = _ := hd 37 (by decide)
        have d33 : _ = _ := hd 33 (by decide)
        first | (exact wpOp_skip rfl (wanted_of (want := true) (b := false) rfl rfl (by rw [eval_get]; exact d33)) (hK _ _ (Fr.refl _ _) hC rfl)) | (refine wpOp_want rfl (wanted_of (want := true) (b := true) rfl rfl (by rw [eval_get]; exact d33)) ?_)
        all_goals (
          go_wp2_with fail
          exact hK _ _ (Fr.refl _ _) hC rfl)
      · rw [if_neg (by decide)]; intro kq
        intro a W K hC hd hK
        have d33 : _ = _ := hd 33 (by decide)
        have d38 : _ = _ := hd 38 (by decide)
        refine wpOp_plain rfl rfl ?_
        go_wp2_with fail
        exact hK _ _ (Fr.refl _ _) hC rfl
      · rw [if_neg (by decide)]; intro kq
        exact calm_mv 39 rfl rfl (Or.inl rfl) (Fr.refl _) (by decide) fun v w hd => hd
      · rw [if_neg (by decide)]; intro kq
        intro a W K hC hd hK
        have d5 : a.tmps[5]?.getD undef = .pointer (some ⟨p, 0, none⟩) := hd 5 (by decide)
        have d40 : _ = _ := hd 40 (by decide)
        first | (exact wpOp_skip rfl (wanted_of (want := true) (b := false) rfl rfl (by rw [eval_get]; exact d40)) (hK _ _ (Fr.refl _ _) hC rfl)) | (refine wpOp_want rfl (wanted_of (want := true) (b := true) rfl rfl (by rw [eval_get]; exact d40)) ?_)
        all_goals (
          go_wp2_with fail
          exact hK _ _ (Fr.refl _ _) hC rfl)
      · rw [if_neg (by decide)]; intro kq
        intro a W K hC hd hK
        have d41 : _ = _ := hd 41 (by decide)
        have d40 : _ = _ := hd 40 (by decide)
        first | (exact wpOp_skip rfl (wanted_of (want := true) (b := false) rfl rfl (by rw [eval_get]; exact d40)) (hK _ _ (Fr.refl _ _) hC rfl)) | (refine wpOp_want rfl (wanted_of (want := true) (b := true) rfl rfl (by rw [eval_get]; exact d40)) ?_)
        all_goals (
          obtain ⟨x0, x1, x2, x3, x4, xf⟩ := BlkAt.c5 hC.2.1
          obtain ⟨y0, y1, yf⟩ := BlkAt.c2 hC.2.2.1
          obtain ⟨z0, z1, z2, z3, z4, zf⟩ := BlkAt.c5 hC.2.2.2.1
          go_wp2_with fail
          refine (leftRd_calls W S p r hC.2.2.2.2).mono ?_
          rintro e9 w9 ⟨rfl, rfl⟩
          exact hK _ _ (Fr.refl _ _) hC rfl)
      · rw [if_neg (by decide)]; intro kq
        intro a W K hC hd hK
        have d7 : a.tmps[7]?.getD undef = .pointer (some ⟨b7, 0, none⟩) := hd 7 (by decide)
        have d40 : _ = _ := hd 40 (by decide)
        first | (exact wpOp_skip rfl (wanted_of (want := true) (b := false) rfl rfl (by rw [eval_get]; exact d40)) (hK _ _ (Fr.refl _ _) hC rfl)) | (refine wpOp_want rfl (wanted_of (want := true) (b := true) rfl rfl (by rw [eval_get]; exact d40)) ?_)
        all_goals (
          obtain ⟨x0, x1, x2, x3, x4, xf⟩ := BlkAt.c5 hC.2.1
          obtain ⟨y0, y1, yf⟩ := BlkAt.c2 hC.2.2.1
          obtain ⟨z0, z1, z2, z3, z4, zf⟩ := BlkAt.c5 hC.2.2.2.1
          go_wp2_with fail
          exact hK _ _ (Fr.refl _ _) hC rfl)
      · rw [if_neg (by decide)]; intro kq
        intro a W K hC hd hK
        have d43 : _ = _ := hd 43 (by decide)
        have d40 : _ = _ := hd 40 (by decide)
        first | (exact wpOp_skip rfl (wanted_of (want := true) (b := false) rfl rfl (by rw [eval_get]; exact d40)) (hK _ _ (Fr.refl _ _) hC rfl)) | (refine wpOp_want rfl (wanted_of (want := true) (b := true) rfl rfl (by rw [eval_get]; exact d40)) ?_)
        all_goals (
          obtain ⟨x0, x1, x2, x3, x4, xf⟩ := BlkAt.c5 hC.2.1
          obtain ⟨y0, y1, yf⟩ := BlkAt.c2 hC.2.2.1
          obtain ⟨z0, z1, z2, z3, z4, zf⟩ := BlkAt.c5 hC.2.2.2.1
          go_wp2_with fail
          exact hK _ _ (Fr.refl _ _) hC rfl)
      · rw [if_neg (by decide)]; intro kq
        intro a W K hC hd hK
        have d44 : _ = _ := hd 44 (by decide)
        have d40 : _ = _ := hd 40 (by decide)
        first | (exact wpOp_skip rfl (wanted_of (want := true) (b := false) rfl rfl (by rw [eval_get]; exact d40)) (hK _ _ (Fr.refl _ _) hC rfl)) | (refine wpOp_want rfl (wanted_of (want := true) (b := true) rfl rfl (by rw [eval_get]; exact d40)) ?_)
        all_goals (
          obtain ⟨x0, x1, x2, x3, x4, xf⟩ := BlkAt.c5 hC.2.1
          obtain ⟨y0, y1, yf⟩ := BlkAt.c2 hC.2.2.1
          obtain ⟨z0, z1, z2, z3, z4, zf⟩ := BlkAt.c5 hC.2.2.2.1
          go_wp2_with fail
          exact hK _ _ (Fr.refl _ _) hC rfl)
      · rw [if_neg (by decide)]; intro kq
        intro a W K hC hd hK
        have d42 : _ = _ := hd 42 (by decide)
        have d45 : _ = _ := hd 45 (by decide)
        have d40 : _ = _ := hd 40 (by decide)
        first | (exact wpOp_skip rfl (wanted_of (want := true) (b := false) rfl rfl (by rw [eval_get]; exact d40)) (hK _ _ (Fr.refl _ _) hC rfl)) | (refine wpOp_want rfl (wanted_of (want := true) (b := true) rfl rfl (by rw [eval_get]; exact d40)) ?_)
        all_goals (
          go_wp2_with fail
          exact hK _ _ (Fr.refl _ _) hC rfl)
      · rw [if_neg (by decide)]; intro kq
        intro a W K hC hd hK
        have d40 : _ = _ := hd 40 (by decide)
        have d46 : _ = _ := hd 46 (by decide)
        refine wpOp_plain rfl rfl ?_
        go_wp2_with fail
        exact hK _ _ (Fr.refl _ _) hC rfl
      · rw [if_neg (by decide)]; intro kq
        exact calm_mv 47 rfl rfl (Or.inr rfl) (Fr.refl _) (by decide) fun v w hd => hd
    · intro vs w8 fw8 cw8 hV
      have v30 : vs 0 = _ := hV 0 _ _ rfl rfl (by decide)
      have v31 : vs 1 = _ := hV 1 _ _ rfl rfl (by decide)
      have v32 : vs 2 = _ := hV 2 _ _ rfl rfl (by decide)
      have v33 : vs 3 = _ := hV 3 _ _ rfl rfl (by decide)
      have v34 : vs 4 = _ := hV 4 _ _ rfl rfl (by decide)
      have v35 : vs 5 = _ := hV 5 _ _ rfl rfl (by decide)
      have v36 : vs 6 = _ := hV 6 _ _ rfl rfl (by decide)
      have v37 : vs 7 = _ := hV 7 _ _ rfl rfl (by decide)
      have v38 : vs 8 = _ := hV 8 _ _ rfl rfl (by decide)
      have v39 : vs 9 = _ := hV 9 _ _ rfl rfl (by decide)
      have v40 : vs 10 = _ := hV 10 _ _ rfl rfl (by decide)
      have v41 : vs 11 = _ := hV 11 _ _ rfl rfl (by decide)
      have v42 : vs 12 = _ := hV 12 _ _ rfl rfl (by decide)
      have v43 : vs 13 = _ := hV 13 _ _ rfl rfl (by decide)
      have v44 : vs 14 = _ := hV 14 _ _ rfl rfl (by decide)
      have v45 : vs 15 = _ := hV 15 _ _ rfl rfl (by decide)
      have v46 : vs 16 = _ := hV 16 _ _ rfl rfl (by decide)
      have v47 : vs 17 = _ := hV 17 _ _ rfl rfl (by decide)
      have v4 : vs 18 = _ := hV 18 _ _ rfl rfl (by decide)
      clear hV
      simp only [putL, Act.put, Nat.reduceAdd, List.setIfInBounds_toArray, List.set_cons_zero, List.set_cons_succ, v30, v31, v32, v33, v34, v35, v36, v37, v38, v39, v40, v41, v42, v43, v44, v45, v46, v47, v4]
      go_wp2_with fail
      go_ret
      exact ⟨by first | rfl | simp [hms], f6w.then' fw8⟩
  · go_enter Tryd.func9, Tryd.ntmps9
    go_wp2_with fail
    refine (hl w).mono ?_
    rintro e w1 ⟨rfl, f1⟩
    go_wp2_with fail
    refine (hl w1).mono ?_
    rintro e w2 ⟨rfl, f2⟩
    go_wp2_with fail
    go_ret
    exact ⟨rfl, f1.then' f2⟩
end Go.Proofs.YtahcopmdffengaaDoor
