/- user.Same, Clone, Up, In; the reference's Same. -/
import Derived.Test.YtahcopmdffengaaDoorUs4
import Derived.Test.YtahcopmdffengaaDoorCloS
import Derived.Test.YtahcopmdffengaaDoorSameT
import Derived.Test.YtahcopmdffengaaDoorRes
namespace Go.Proofs.YtahcopmdffengaaDoor
open Go.RowKit
def memU (g : ByteArray) (l : List ByteArray) : Bool := l.any fun s => decide (g = s)
theorem memU_iff {g : ByteArray} {l : List ByteArray} : memU g l = true ↔ g ∈ l := by
  unfold memU; rw [List.any_eq_true]; simp
def sameU (a b : UsV) : Bool := decide (a.name = b.name) && decide (a.hash = b.hash) && decide (a.mail = b.mail) && (a.dis == b.dis) && decide (a.gs = b.gs)
set_option maxRecDepth 100000 in
set_option maxHeartbeats 1600000 in
theorem sameU_calls (w : World) (a b : UsV) (A B : Option Addr) (c d n m : Nat) (ha : RowAt w A (strs a.gs)) (hb : RowAt w B (strs b.gs)) (HN : Hid (a.gs.length = n)) (HM : Hid (b.gs.length = m)) (hn : n ≤ 1000000) :
    Calls Tryd.prog 29 #[.agg (a.C (.slice A n c)), .agg (b.C (.slice B m d))] w (BoolPost w (sameU a b)) := by
  have hb0 : BlkAt ((w.alloc (.cells (a.C (.slice A n c)) 35)).alloc (.cells (b.C (.slice B m d)) 35)) w.heap.size 35 (a.C (.slice A n c)) := (BlkAt.new _ _ _).al _
  have hb1 : BlkAt ((w.alloc (.cells (a.C (.slice A n c)) 35)).alloc (.cells (b.C (.slice B m d)) 35)) (w.heap.size + 1) 35 (b.C (.slice B m d)) := by
    have := BlkAt.new (w.alloc (.cells (a.C (.slice A n c)) 35)) (b.C (.slice B m d)) 35
    rwa [al_size] at this
  have f0 : Fr noB w ((w.alloc (.cells (a.C (.slice A n c)) 35)).alloc (.cells (b.C (.slice B m d)) 35)) := ((Fr.refl noB w).alloc _).alloc _
  have HV : Hid (sameU a b = ((a.name.toList == b.name.toList) && (a.hash.toList == b.hash.toList) && (a.mail.toList == b.mail.toList) && (a.dis == b.dis) && decide (a.gs = b.gs))) := by
    unfold Hid sameU; rw [str_eq, str_eq, str_eq]
  have he := fun W f => equalS_calls W A B c d n m a.gs b.gs (ha.fr0 (w' := W) f) (hb.fr0 f) HN HM (by omega)
  obtain ⟨v1, h1⟩ : ∃ v, (a.name.toList == b.name.toList) = v := ⟨_, rfl⟩
  obtain ⟨v2, h2⟩ : ∃ v, (a.hash.toList == b.hash.toList) = v := ⟨_, rfl⟩
  obtain ⟨v3, h3⟩ : ∃ v, (a.mail.toList == b.mail.toList) = v := ⟨_, rfl⟩
  obtain ⟨v4, h4⟩ : ∃ v, (a.dis == b.dis) = v := ⟨_, rfl⟩
  rw [h1, h2, h3, h4] at HV
  obtain ⟨v5, h5⟩ : ∃ v, decide (a.gs = b.gs) = v := ⟨_, rfl⟩
  rw [h5] at he HV
  clear h5 ha hb HN HM
  unfold UsV.C at *
  generalize a.name = x1 at *
  generalize a.hash = x2 at *
  generalize a.mail = x3 at *
  generalize a.dis = x4 at *
  generalize b.name = y1 at *
  generalize b.hash = y2 at *
  generalize b.mail = y3 at *
  generalize b.dis = y4 at *
  cases v1
  · go_enter Tryd.func29, Tryd.ntmps29
    go_wp2_with fail
    go_ret
    exact ⟨by rw [HV.out]; rfl, f0⟩
  · cases v2
    · go_enter Tryd.func29, Tryd.ntmps29
      go_wp2_with fail
      go_ret
      exact ⟨by rw [HV.out]; rfl, f0⟩
    · cases v3
      · go_enter Tryd.func29, Tryd.ntmps29
        go_wp2_with fail
        go_ret
        exact ⟨by rw [HV.out]; rfl, f0⟩
      · cases v4
        · go_enter Tryd.func29, Tryd.ntmps29
          go_wp2_with fail
          go_ret
          exact ⟨by rw [HV.out]; rfl, f0⟩
        · go_enter Tryd.func29, Tryd.ntmps29
          go_wp2_with fail
          refine (he _ f0).mono ?_
          rintro e w' ⟨rfl, f1⟩
          go_wp2_with fail
          go_ret
          exact ⟨by rw [HV.out]; rfl, f0.then' f1⟩
set_option maxRecDepth 100000 in
set_option maxHeartbeats 1600000 in
theorem sameR_calls (w : World) (a b : UsV) (A B : Option Addr) (c d n m : Nat) (ha : RowAt w A (strs a.gs)) (hb : RowAt w B (strs b.gs)) (HN : Hid (a.gs.length = n)) (HM : Hid (b.gs.length = m)) (hn : n ≤ 1000000) :
    Calls Tryd.prog 30 #[.agg (a.C (.slice A n c)), .agg (b.C (.slice B m d))] w (BoolPost w (sameU a b)) := by
  have hb0 : BlkAt ((w.alloc (.cells (a.C (.slice A n c)) 35)).alloc (.cells (b.C (.slice B m d)) 35)) w.heap.size 35 (a.C (.slice A n c)) := (BlkAt.new _ _ _).al _
  have hb1 : BlkAt ((w.alloc (.cells (a.C (.slice A n c)) 35)).alloc (.cells (b.C (.slice B m d)) 35)) (w.heap.size + 1) 35 (b.C (.slice B m d)) := by
    have := BlkAt.new (w.alloc (.cells (a.C (.slice A n c)) 35)) (b.C (.slice B m d)) 35
    rwa [al_size] at this
  have f0 : Fr noB w ((w.alloc (.cells (a.C (.slice A n c)) 35)).alloc (.cells (b.C (.slice B m d)) 35)) := ((Fr.refl noB w).alloc _).alloc _
  have HV : Hid (sameU a b = ((a.name.toList == b.name.toList) && (a.hash.toList == b.hash.toList) && (a.mail.toList == b.mail.toList) && (a.dis == b.dis) && decide (a.gs = b.gs))) := by
    unfold Hid sameU; rw [str_eq, str_eq, str_eq]
  obtain ⟨v1, h1⟩ : ∃ v, (a.name.toList == b.name.toList) = v := ⟨_, rfl⟩
  obtain ⟨v2, h2⟩ : ∃ v, (a.hash.toList == b.hash.toList) = v := ⟨_, rfl⟩
  obtain ⟨v3, h3⟩ : ∃ v, (a.mail.toList == b.mail.toList) = v := ⟨_, rfl⟩
  obtain ⟨v4, h4⟩ : ∃ v, (a.dis == b.dis) = v := ⟨_, rfl⟩
  rw [h1, h2, h3, h4] at HV
  replace ha := ha.fr0 f0
  replace hb := hb.fr0 f0
  unfold UsV.C at *
  generalize a.name = x1 at *
  generalize a.hash = x2 at *
  generalize a.mail = x3 at *
  generalize a.dis = x4 at *
  generalize b.name = y1 at *
  generalize b.hash = y2 at *
  generalize b.mail = y3 at *
  generalize b.dis = y4 at *
  generalize a.gs = l at *
  generalize b.gs = r at *
  cases v1
  · go_enter Tryd.func30, Tryd.ntmps30
    go_wp2_with fail
    go_ret
    exact ⟨by rw [HV.out]; rfl, f0⟩
  · cases v2
    · go_enter Tryd.func30, Tryd.ntmps30
      go_wp2_with fail
      go_ret
      exact ⟨by rw [HV.out]; rfl, f0⟩
    · cases v3
      · go_enter Tryd.func30, Tryd.ntmps30
        go_wp2_with fail
        go_ret
        exact ⟨by rw [HV.out]; rfl, f0⟩
      · cases v4
        · go_enter Tryd.func30, Tryd.ntmps30
          go_wp2_with fail
          go_ret
          exact ⟨by rw [HV.out]; rfl, f0⟩
        · by_cases hnm : n = m
          · subst hnm
            have h6 : ((n : Int) != (n : Int)) = false := by simp
            go_enter Tryd.func30, Tryd.ntmps30
            go_wp2_with fail
            generalize ((w.alloc _).alloc _) = W at *
            obtain ⟨x0, x1, x2, x3, x4, xf⟩ := BlkAt.c5 hb0
            obtain ⟨y0, y1, y2, y3, y4, yf⟩ := BlkAt.c5 hb1
            clear x0 x1 x2 x3 y0 y1 y2 y3
            go_wp2_with fail
            go_loopw [44] (fun i wr => ∃ k : Nat, k ≤ n ∧ i = .int .i64 k ∧ Hid (l.take k = r.take k) ∧ Fr noB W wr) (fun i _ => n - (intOf i).toNat)
            case atStart => exact ⟨0, Nat.zero_le _, rfl, rfl, Fr.refl _ _⟩
            case round =>
              obtain ⟨k, hk, rfl, HE, hf⟩ := hrel
              by_cases hkn : k < n
              · obtain ⟨s, hs⟩ : ∃ s, l[k]? = some s := ⟨_, List.getElem?_eq_getElem (by rw [HN.out]; exact hkn)⟩
                obtain ⟨t, ht⟩ : ∃ s, r[k]? = some s := ⟨_, List.getElem?_eq_getElem (by rw [HM.out]; exact hkn)⟩
                obtain ⟨a, rfl⟩ := strs_pos ha hs
                obtain ⟨b, rfl⟩ := strs_pos hb ht
                have ca : wr.cell? (a.add k) = some (.string s) := hf.cell (ha.cell (strs_get hs)) id
                have cb : wr.cell? (b.add k) = some (.string t) := hf.cell (hb.cell (strs_get ht)) id
                have x5 := hf.cell x4 id
                have y5 := hf.cell y4 id
                have HS := hid hs; clear hs
                have HT := hid ht; clear ht
                by_cases hst : s = t
                · subst hst
                  go_wp2_with fail
                  go_quiet (fail)
                  go_wp2_with fail
                  go_roundw
                  case rel => exact ⟨k + 1, by omega, by go_num, by unfold Hid; rw [take_snoc' HS.out, take_snoc' HT.out, HE.out], hf.drewN _⟩
                  case measure => simp [intOf]; omega
                · have h2 : (s.toList == t.toList) = false := by rw [str_eq]; exact decide_eq_false hst
                  have HST := hid hst; clear hst
                  go_wp2_with fail
                  go_quiet (fail)
                  go_wp2_with fail
                  go_ret
                  refine BoolPost.mk' ?_ (f0.then' (hf.drewN _))
                  rw [HV.out]
                  have : decide (l = r) = false := by
                    rw [decide_eq_false_iff_not]; rintro rfl
                    exact HST.out (by simpa using HS.out.symm.trans HT.out)
                  rw [this]; rfl
              · obtain rfl : k = n := by omega
                go_wp2_with fail
                go_ret
                refine BoolPost.mk' ?_ (f0.then' hf)
                have := HE.out
                rw [List.take_of_length_le (by rw [HN.out]; exact Nat.le_refl _), List.take_of_length_le (by rw [HM.out]; exact Nat.le_refl _)] at this
                rw [HV.out, decide_eq_true this]; rfl
          · have h6 : ((n : Int) != (m : Int)) = true := by simp; omega
            have h7 : decide (l = r) = false := by rw [decide_eq_false_iff_not]; rintro rfl; exact hnm (HN.out.symm.trans HM.out)
            rw [h7] at HV
            clear h7 hnm
            go_enter Tryd.func30, Tryd.ntmps30
            go_wp2_with fail
            go_ret
            exact ⟨by rw [HV.out]; rfl, f0⟩
set_option maxRecDepth 100000 in
set_option maxHeartbeats 800000 in
theorem indexS_calls06 (w : World) (A : Option Addr) (n c : Nat) (l : List ByteArray) (g : ByteArray) (hx : RowAt w A (strs l)) (HN : Hid (l.length = n)) (hn : n ≤ 1000000) :
    Calls Tryd.prog 77 #[.slice A n c, .string g] w (fun e w' => (∃ z : Int, e = .returned (.int .i64 z) ∧ decide (0 ≤ z) = memU g l) ∧ w = w') := by
  go_enter Tryd.func77, Tryd.ntmps77
  go_wp2_with fail
  go_loop [8] (fun i => ∃ k : Nat, k ≤ n ∧ i = .int .i64 k ∧ Hid (g ∉ l.take k)) (fun i => n - (intOf i).toNat)
  case atStart => exact ⟨0, Nat.zero_le _, rfl, by unfold Hid; simp⟩
  case round =>
    obtain ⟨k, hk, rfl, HE⟩ := hrel
    by_cases hkn : k < n
    · obtain ⟨s, hs⟩ : ∃ s, l[k]? = some s := ⟨_, List.getElem?_eq_getElem (by rw [HN.out]; exact hkn)⟩
      obtain ⟨a, rfl⟩ := strs_pos hx hs
      have ca : w.cell? (a.add k) = some (.string s) := hx.cell (strs_get hs)
      have HS := hid hs; clear hs
      by_cases hst : g = s
      · subst hst
        have HM := hid (List.mem_of_getElem? HS.out)
        go_wp2_with fail
        go_ret
        exact ⟨⟨k, rfl, by rw [memU_iff.mpr HM.out]; simp⟩, rfl⟩
      · have h2 : (g.toList == s.toList) = false := by rw [str_eq]; exact decide_eq_false hst
        have HST := hid hst; clear hst
        go_wp2_with fail
        go_round
        case rel => exact ⟨k + 1, by omega, by go_num, by
          unfold Hid; rw [take_snoc' HS.out, List.mem_append, List.mem_singleton]
          rintro (h | h)
          · exact HE.out h
          · exact HST.out h⟩
        case measure => simp [intOf]; omega
    · obtain rfl : k = n := by omega
      go_wp2_with fail
      go_ret
      have := HE.out
      rw [List.take_of_length_le (by rw [HN.out]; exact Nat.le_refl _)] at this
      exact ⟨⟨-1, rfl, by rw [Bool.eq_false_iff.mpr fun h => this (memU_iff.mp h)]; rfl⟩, rfl⟩
set_option maxRecDepth 100000 in
theorem containsS_calls06 (w : World) (A : Option Addr) (n c : Nat) (l : List ByteArray) (g : ByteArray) (hx : RowAt w A (strs l)) (HN : Hid (l.length = n)) (hn : n ≤ 1000000) :
    Calls Tryd.prog 53 #[.slice A n c, .string g] w (fun e w' => e = .returned (.bool (memU g l)) ∧ w = w') := by
  have hi := indexS_calls06 w A n c l g hx HN hn
  go_enter Tryd.func53, Tryd.ntmps53
  go_wp2_with fail
  refine hi.mono ?_
  rintro e w' ⟨⟨z, rfl, hz⟩, rfl⟩
  go_wp2_with fail
  go_ret
  exact ⟨by rw [← hz]; rfl, rfl⟩
set_option maxRecDepth 100000 in
theorem inU_calls (w : World) (u : UsV) (A : Option Addr) (n c : Nat) (g : ByteArray) (hx : RowAt w A (strs u.gs)) (HN : Hid (u.gs.length = n)) (hn : n ≤ 1000000) :
    Calls Tryd.prog 26 #[.agg (u.C (.slice A n c)), .string g] w (BoolPost w (memU g u.gs)) := by
  have f0 : Fr noB w (w.alloc (.cells (u.C (.slice A n c)) 35)) := (Fr.refl noB w).alloc _
  have hi := containsS_calls06 _ A n c u.gs g (hx.fr0 f0) HN hn
  unfold UsV.C at *
  go_enter Tryd.func26, Tryd.ntmps26
  go_wp2_with (refine hi.mono ?_; rintro e w' ⟨rfl, rfl⟩)
  go_ret
  exact ⟨rfl, f0⟩
end Go.Proofs.YtahcopmdffengaaDoor
