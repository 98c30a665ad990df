/- The reference's Check of a user. -/
import Derived.Test.YtahcopmdffengaaDoorUs3
namespace Go.Proofs.YtahcopmdffengaaDoor
open Go.RowKit
theorem strE (s : ByteArray) : s.toList.isEmpty = decide (s.size = 0) := by
  rw [Bool.eq_iff_iff, decide_eq_true_iff, List.isEmpty_iff_length_eq_zero, ByteArray.toList_eq]; simp
theorem cmpS_sw {s t : ByteArray} {z : Int} (h : cmpS t s = z) : cmpS s t = -z := by rw [← h]; exact cmpL_neg _ _
theorem errN_iff {b : Bool} {k : Nat} (hk : k ≠ 0) : errN b k = 0 ↔ b = true := by unfold errN; cases b <;> simp [hk]
set_option maxRecDepth 100000 in
set_option maxHeartbeats 1600000 in
theorem checkR_bad (w : World) (z : Int) (u : UsV) (s : Value) (h1 : z ≠ 1) (h2 : z ≠ 2) : Calls Tryd.prog 36 #[.int .i64 z, .agg (u.C s)] w (NatPost w (checkU z u)) := by
  have HV : Hid (checkU z u = 6) := by unfold Hid checkU; rw [if_neg (by omega)]
  have f0 : Fr noB w (w.alloc (.cells (u.C s) 35)) := (Fr.refl noB w).alloc _
  rcases (show z < 1 ∨ 1 ≤ z ∧ 2 < z by omega) with h3 | ⟨h3, h4⟩
  · have t1 : decide (z < 1) = true := decide_eq_true h3
    clear h1 h2 h3
    unfold UsV.C at *
    go_enter Tryd.func36, Tryd.ntmps36
    go_wp2_with fail
    go_ret
    exact ⟨by rw [HV.out]; rfl, f0⟩
  · have t1 : decide (z < 1) = false := decide_eq_false (by omega)
    have t2 : decide (2 < z) = true := decide_eq_true h4
    clear h1 h2 h3 h4
    unfold UsV.C at *
    go_enter Tryd.func36, Tryd.ntmps36
    go_wp2_with fail
    go_ret
    exact ⟨by rw [HV.out]; rfl, f0⟩
set_option maxRecDepth 100000 in
set_option maxHeartbeats 1600000 in
theorem checkR_pre (w : World) (z : Int) (u : UsV) (A : Option Addr) (n c : Nat) (hz : z = 1 ∨ z = 2) (hno : (nameS u.name && hashS u.hash) = false) :
    Calls Tryd.prog 36 #[.int .i64 z, .agg (u.C (.slice A n c))] w (NatPost w (checkU z u)) := by
  have hn1 := fun W => nameR_any W u.name
  have hn2 := fun W => hashR_any W u.hash
  have hb0 : BlkAt (w.alloc (.cells (u.C (.slice A n c)) 35)) w.heap.size 35 (u.C (.slice A n c)) := BlkAt.new _ _ _
  have f0 : Fr noB w (w.alloc (.cells (u.C (.slice A n c)) 35)) := (Fr.refl noB w).alloc _
  have HV : Hid (checkU z u = if nameS u.name then 4 else 10) := by
    unfold Hid checkU
    rw [if_pos hz]
    revert hno
    cases nameS u.name <;> cases hashS u.hash <;> simp
  generalize nameS u.name = v1 at *
  generalize hashS u.hash = v2 at *
  obtain ⟨k, hk⟩ : ∃ k, checkU z u = k := ⟨_, rfl⟩
  rw [hk] at HV ⊢
  clear hk
  unfold UsV.C at *
  rcases hz with rfl | rfl
  all_goals
    cases v1 <;> cases v2 <;> (first | exact absurd hno (by decide) | skip)
    all_goals
      clear hno
      go_enter Tryd.func36, Tryd.ntmps36
      go_wp2_with fail
      generalize (w.alloc _) = wa at *
      obtain ⟨x0, x1, x2, x3, x4, xf⟩ := BlkAt.c5 hb0
      go_wp2_with (first | (go_at_call 19; refine (hn1 _).mono ?_; rintro e w' ⟨rfl, rfl⟩) | (go_at_call 21; refine (hn2 _).mono ?_; rintro e w' ⟨rfl, rfl⟩))
      go_ret
      exact ⟨by rw [HV.out]; rfl, f0⟩
set_option maxRecDepth 100000 in
set_option maxHeartbeats 1600000 in
theorem checkR1 (w : World) (u : UsV) (A : Option Addr) (n c : Nat) (h1 : nameS u.name = true) (h2 : hashS u.hash = true) (HN : Hid (u.gs.length = n)) :
    Calls Tryd.prog 36 #[.int .i64 1, .agg (u.C (.slice A n c))] w (NatPost w (checkU 1 u)) := by
  have hn1 := fun W => nameR_any W u.name
  have hn2 := fun W => hashR_any W u.hash
  have hb0 : BlkAt (w.alloc (.cells (u.C (.slice A n c)) 35)) w.heap.size 35 (u.C (.slice A n c)) := BlkAt.new _ _ _
  have f0 : Fr noB w (w.alloc (.cells (u.C (.slice A n c)) 35)) := (Fr.refl noB w).alloc _
  rw [h1] at hn1
  rw [h2] at hn2
  obtain ⟨vm, hvm⟩ : ∃ v, decide (u.mail.size = 0) = v := ⟨_, rfl⟩
  obtain ⟨ds, hds⟩ : ∃ v, u.dis = v := ⟨_, rfl⟩
  obtain ⟨vn, hvn⟩ : ∃ v, decide (0 < n) = v := ⟨_, rfl⟩
  have HV : Hid (checkU 1 u = if vm && !ds && !vn then 0 else 12) := by
    unfold Hid checkU
    rw [if_pos (Or.inl rfl), h1, h2, if_pos rfl, if_pos rfl, if_neg (by decide), ← hvm, ← hds, ← hvn]
    have : u.gs = [] ↔ n = 0 := by rw [← HN.out]; exact List.length_eq_zero_iff.symm
    by_cases g1 : u.mail.size = 0 <;> cases u.dis <;> by_cases g2 : n = 0 <;> simp [g1, this, g2] <;> omega
  have hie := strE u.mail
  rw [hvm] at hie
  obtain ⟨k, hk⟩ : ∃ k, checkU 1 u = k := ⟨_, rfl⟩
  rw [hk] at HV ⊢
  unfold UsV.C at *
  rw [hds] at hb0 f0 ⊢
  clear hk h1 h2 hvm hds HN
  generalize u.mail = ml at *
  cases vm <;> cases ds <;> cases vn
  all_goals
    go_enter Tryd.func36, Tryd.ntmps36
    go_wp2_with fail
    generalize (w.alloc _) = wa at *
    obtain ⟨x0, x1, x2, x3, x4, xf⟩ := BlkAt.c5 hb0
    go_wp2_with (first | (go_at_call 19; refine (hn1 _).mono ?_; rintro e w' ⟨rfl, rfl⟩) | (go_at_call 21; refine (hn2 _).mono ?_; rintro e w' ⟨rfl, rfl⟩))
    go_ret
    exact ⟨by rw [HV.out]; rfl, f0⟩
theorem mailOk_empty {s : ByteArray} (h : decide (s.size = 0) = true) : mailOk s = true := by unfold mailOk; rw [h]; rfl
theorem mailOk_other {s : ByteArray} (h : decide (s.size = 0) = false) : mailOk s = (mailV s && ((mailT s).toList == s.toList)) := by
  unfold mailOk; rw [h, str_eq]; simp
set_option maxRecDepth 100000 in
set_option maxHeartbeats 3200000 in
theorem checkR2 (w : World) (u : UsV) (A : Option Addr) (n c : Nat) (h1 : nameS u.name = true) (h2 : hashS u.hash = true) (hx : RowAt w A (strs u.gs)) (HN : Hid (u.gs.length = n)) :
    Calls Tryd.prog 36 #[.int .i64 2, .agg (u.C (.slice A n c))] w (NatPost w (checkU 2 u)) := by
  have hn1 := fun W => nameR_any W u.name
  have hn2 := fun W => hashR_any W u.hash
  have hn3 := fun W => mailR_any W u.mail
  have hb0 : BlkAt (w.alloc (.cells (u.C (.slice A n c)) 35)) w.heap.size 35 (u.C (.slice A n c)) := BlkAt.new _ _ _
  have f0 : Fr noB w (w.alloc (.cells (u.C (.slice A n c)) 35)) := (Fr.refl noB w).alloc _
  replace hx := hx.fr0 f0
  rw [h1] at hn1
  rw [h2] at hn2
  have HV : Hid (checkU 2 u = if mailOk u.mail then groupsE u.gs else 11) := by
    unfold Hid checkU
    rw [if_pos (Or.inr rfl), h1, h2, if_pos rfl, if_pos rfl, if_pos rfl]
  obtain ⟨k, hk⟩ : ∃ k, checkU 2 u = k := ⟨_, rfl⟩
  rw [hk] at HV ⊢
  have hie := strE u.mail
  have hm0 := fun h => mailOk_empty (s := u.mail) h
  have hm1 := fun h => mailOk_other (s := u.mail) h
  obtain ⟨vm, hvm⟩ : ∃ v, decide (u.mail.size = 0) = v := ⟨_, rfl⟩
  rw [hvm] at hie hm0 hm1
  obtain ⟨v, hv⟩ : ∃ v, mailV u.mail = v := ⟨_, rfl⟩
  rw [hv] at hn3 hm1
  unfold UsV.C at *
  clear hk h1 h2 hvm hv
  generalize mailT u.mail = mt at *
  generalize mailOk u.mail = mo at *
  generalize u.mail = ml at *
  generalize u.gs = l at *
  cases vm
  case' false =>
    obtain ⟨d, hd⟩ : ∃ d, (mt.toList == ml.toList) = d := ⟨_, rfl⟩
    have hmo := hm1 rfl
    rw [hd] at hmo
    clear hm0 hm1
    have h4 : mo = true ∨ mo = false := by cases mo <;> simp
    rcases h4 with rfl | rfl
    rotate_left
    · cases v <;> cases d <;> (first | exact absurd hmo (by decide) | skip)
      all_goals
        clear hmo
        go_enter Tryd.func36, Tryd.ntmps36
        go_wp2_with fail
        generalize (w.alloc _) = wa at *
        obtain ⟨x0, x1, x2, x3, x4, xf⟩ := BlkAt.c5 hb0
        go_wp2_with (first | (go_at_call 19; refine (hn1 _).mono ?_; rintro e w' ⟨rfl, rfl⟩) | (go_at_call 21; refine (hn2 _).mono ?_; rintro e w' ⟨rfl, rfl⟩))
        refine (hn3 _).mono ?_
        rintro e w1 ⟨rfl, f1⟩
        clear x0 x1 x2 x3 x4 xf
        obtain ⟨x0, x1, x2, x3, x4, xf⟩ := BlkAt.c5 (hb0.fr f1 id)
        go_wp2_with fail
        go_ret
        exact ⟨by rw [HV.out]; rfl, f0.then' f1⟩
    obtain ⟨rfl, rfl⟩ : v = true ∧ d = true := by revert hmo; cases v <;> cases d <;> simp
    clear hmo
    go_enter Tryd.func36, Tryd.ntmps36
    go_wp2_with fail
    generalize (w.alloc _) = wa at *
    obtain ⟨x0, x1, x2, x3, x4, xf⟩ := BlkAt.c5 hb0
    go_wp2_with (first | (go_at_call 19; refine (hn1 _).mono ?_; rintro e w' ⟨rfl, rfl⟩) | (go_at_call 21; refine (hn2 _).mono ?_; rintro e w' ⟨rfl, rfl⟩))
    refine (hn3 _).mono ?_
    rintro e W ⟨rfl, f1⟩
    clear x0 x1 x2 x3 x4 xf
    replace hx := hx.fr0 f1
    replace hb0 := hb0.fr f1 id
    replace f0 := f0.then' f1
  case' true =>
    obtain rfl := hm0 rfl
    clear hm0 hm1
    go_enter Tryd.func36, Tryd.ntmps36
    go_wp2_with fail
    generalize (w.alloc _) = W at *
  all_goals
    obtain ⟨x0, x1, x2, x3, x4, xf⟩ := BlkAt.c5 hb0
    replace HV : Hid (k = groupsE l) := HV.out
    obtain ⟨b0, hb9⟩ : ∃ b, decide ((6 : Int) < n) = b := ⟨_, rfl⟩
    cases b0
    · have H6 := hid (show ¬ 6 < l.length by have := of_decide_eq_false hb9; rw [HN.out]; omega)
      have hn : n ≤ 6 := by have := of_decide_eq_false hb9; omega
      go_wp2_with (first | (go_at_call 19; refine (hn1 _).mono ?_; rintro e w' ⟨rfl, rfl⟩) | (go_at_call 21; refine (hn2 _).mono ?_; rintro e w' ⟨rfl, rfl⟩))
      go_loop [64] (fun i => ∃ k : Nat, k ≤ n ∧ i = .int .i64 k ∧ Hid (∀ s ∈ l.take k, nameS s = true)) (fun i => n - (intOf i).toNat)
      case atStart => exact ⟨0, by omega, rfl, fun s h => by simp at h⟩
      case round =>
        obtain ⟨j, hj, rfl, HK⟩ := hrel
        by_cases hjn : j < n
        · obtain ⟨s, hs⟩ : ∃ s, l[j]? = some s := ⟨_, List.getElem?_eq_getElem (by rw [HN.out]; exact hjn)⟩
          obtain ⟨a, rfl⟩ := strs_pos hx hs
          have ca : W.cell? (a.add j) = some (.string s) := hx.cell (strs_get hs)
          have hnm := fun W => nameR_any W s
          have HG := hid hs; clear hs
          obtain ⟨v, hv⟩ : ∃ v, nameS s = v := ⟨_, rfl⟩
          rw [hv] at hnm
          cases v
          · have HV2 := hid (groupsE_name H6.out HG.out hv)
            clear hv
            go_wp2_with (refine (hnm _).mono ?_; rintro e w' ⟨rfl, rfl⟩)
            go_ret
            exact ⟨by rw [HV.out, HV2.out]; rfl, f0⟩
          · have HV2 := hid hv
            clear hv
            go_wp2_with (refine (hnm _).mono ?_; rintro e w' ⟨rfl, rfl⟩)
            go_round
            case rel => exact ⟨j + 1, by omega, by go_num, fun s' h' => by
              rw [take_snoc' HG.out, List.mem_append] at h'
              rcases h' with h' | h'
              · exact HK.out s' h'
              · rw [List.mem_singleton] at h'; subst h'; exact HV2.out⟩
            case measure => simp [intOf]; omega
        · obtain rfl : j = n := by omega
          have HA : Hid (l.all nameS = true) := by
            unfold Hid
            rw [List.all_eq_true]
            intro s hs
            exact HK.out s (by rw [List.take_of_length_le (by rw [HN.out]; exact Nat.le_refl _)]; exact hs)
          clear HK
          go_wp2_with fail
          go_loop [75] (fun i => ∃ m : Nat, m ≤ j ∧ i = .int .i64 m ∧ Hid (∀ i s t, i + 1 < m → l[i]? = some s → l[i + 1]? = some t → cmpS s t < 0)) (fun i => j - (intOf i).toNat)
          case atStart => exact ⟨0, by omega, rfl, fun i s t h => absurd h (by omega)⟩
          case round =>
            obtain ⟨m, hm, rfl, HJ⟩ := hrel
            by_cases hmj : m < j
            · obtain ⟨t, ht⟩ : ∃ s, l[m]? = some s := ⟨_, List.getElem?_eq_getElem (by rw [HN.out]; exact hmj)⟩
              obtain ⟨a, rfl⟩ := strs_pos hx ht
              have cb : W.cell? (a.add m) = some (.string t) := hx.cell (strs_get ht)
              have HT := hid ht; clear ht
              obtain ⟨v5, h5⟩ : ∃ v, decide (0 < m) = v := ⟨_, rfl⟩
              cases v5
              · have H0 := hid (of_decide_eq_false h5)
                go_wp2_with fail
                go_round
                case rel => exact ⟨m + 1, by omega, by go_num, fun i s t h => absurd h (by have := H0.out; omega)⟩
                case measure => simp [intOf]; omega
              · obtain ⟨q, hq⟩ : ∃ q, m = q + 1 := ⟨m - 1, by have := of_decide_eq_true h5; omega⟩
                have hsub : (m : Int) - 1 = q := by omega
                have hqj : q < j := by omega
                have HM := hid hq
                obtain ⟨s, hs⟩ : ∃ s, l[q]? = some s := ⟨_, List.getElem?_eq_getElem (by rw [HN.out]; omega)⟩
                have ca : W.cell? (a.add q) = some (.string s) := hx.cell (strs_get hs)
                have HG := hid hs; clear hs
                clear hq
                rcases cmpS_cases t s with ⟨h1, h2⟩ | ⟨h1, h3, h2⟩ | ⟨h1, h3, h2⟩
                rotate_left 2
                · have HC := hid (cmpS_sw h2); clear h2
                  go_wp2_with fail
                  go_round
                  case rel => exact ⟨m + 1, by omega, by go_num, fun i s' t' h1 h2 h3 => by
                    have hm := HM.out
                    by_cases he : i + 1 < m
                    · exact HJ.out i s' t' he h2 h3
                    · obtain rfl : i = q := by omega
                      rw [← hm] at h3
                      have e1 := Option.some.inj (h2.symm.trans HG.out)
                      have e2 := Option.some.inj (h3.symm.trans HT.out)
                      subst e1; subst e2; rw [HC.out]; decide⟩
                  case measure => simp [intOf]; omega
                all_goals
                  have HC := hid (cmpS_sw h2); clear h2
                  go_wp2_with fail
                  go_ret
                  have hr := risesS_no HG.out (HM.out ▸ HT.out) (by rw [HC.out]; decide)
                  exact ⟨by rw [HV.out, groupsE_rise H6.out HA.out hr]; rfl, f0⟩
            · have HJK := hid (show m = j by omega)
              go_wp2_with fail
              go_ret
              have hr : risesS l = true := risesS_yes fun i s t h1 h2 => by
                have hi : i + 1 < l.length := (List.getElem?_eq_some_iff.mp h2).1
                rw [HN.out] at hi
                exact HJ.out i s t (by have := HJK.out; omega) h1 h2
              exact ⟨by rw [HV.out, groupsE_rise H6.out HA.out hr]; rfl, f0⟩
    · have HV2 := hid (groupsE_over (l := l) (by have := of_decide_eq_true hb9; rw [HN.out]; omega))
      go_wp2_with (first | (go_at_call 19; refine (hn1 _).mono ?_; rintro e w' ⟨rfl, rfl⟩) | (go_at_call 21; refine (hn2 _).mono ?_; rintro e w' ⟨rfl, rfl⟩))
      go_ret
      exact ⟨by rw [HV.out, HV2.out]; rfl, f0⟩
theorem checkR_calls (w : World) (z : Int) (u : UsV) (A : Option Addr) (n c : Nat) (hx : RowAt w A (strs u.gs)) (HN : Hid (u.gs.length = n)) :
    Calls Tryd.prog 36 #[.int .i64 z, .agg (u.C (.slice A n c))] w (NatPost w (checkU z u)) := by
  by_cases h : z = 1 ∨ z = 2
  · cases hb : (nameS u.name && hashS u.hash)
    · exact checkR_pre w z u A n c h hb
    · rw [Bool.and_eq_true] at hb
      rcases h with rfl | rfl
      · exact checkR1 w u A n c hb.1 hb.2 HN
      · exact checkR2 w u A n c hb.1 hb.2 hx HN
  · exact checkR_bad w z u _ (fun g => h (Or.inl g)) (fun g => h (Or.inr g))
end Go.Proofs.YtahcopmdffengaaDoor
