/- interrexlaw05.NameOrder: the walk. -/
import Derived.Test.YtahcopmdffengaaDoorNm11
namespace Go.Proofs.YtahcopmdffengaaDoor
open Go.RowKit
theorem cmpS_neg (a b : ByteArray) : cmpS b a = -cmpS a b := cmpL_neg _ _
theorem cmpS_trans (a b c : ByteArray) (h1 : cmpS a b ≤ 0) (h2 : cmpS b c ≤ 0) : cmpS a c ≤ 0 := cmpL_trans _ _ _ h1 h2
theorem cmpS_range (a b : ByteArray) : cmpS a b = -1 ∨ cmpS a b = 0 ∨ cmpS a b = 1 := cmpL_range _ _
theorem cmpS_step (a b : ByteArray) (k : Nat) (h1 : k < a.size) (h2 : k < b.size) (h3 : ∀ j, j < k → a.data.toList.getD j 0 = b.data.toList.getD j 0) : ((a.data.toList.getD k 0).toNat < (b.data.toList.getD k 0).toNat → cmpS a b = -1) ∧ ((b.data.toList.getD k 0).toNat < (a.data.toList.getD k 0).toNat → cmpS a b = 1) := by
  have h := cmpL_step k a.data.toList b.data.toList (by simpa using h1) (by simpa using h2) h3
  unfold cmpS
  constructor
  · intro h4; rw [h, if_pos h4]
  · intro h4; rw [h, if_neg (by omega), if_pos h4]
theorem cmpS_end (a b : ByteArray) (h : ∀ j, j < a.size → j < b.size → a.data.toList.getD j 0 = b.data.toList.getD j 0) : cmpS a b = if a.size < b.size then -1 else if b.size < a.size then 1 else 0 := by
  have h2 := cmpL_end a.data.toList b.data.toList (fun j h1 h2 => h j (by simpa using h1) (by simpa using h2))
  unfold cmpS
  rw [h2]
  simp
def EqTo (a b : ByteArray) (k : Nat) : Prop := ∀ j, j < k → a.data.toList.getD j 0 = b.data.toList.getD j 0
set_option maxRecDepth 100000 in
set_option maxHeartbeats 1600000 in
theorem order_long (w : World) (a b c : ByteArray) (h : (decide ((100 : Int) < a.size) || decide ((100 : Int) < b.size) || decide ((100 : Int) < c.size)) = true) : Calls Tryd.prog 6 #[.string a, .string b, .string c] w (BoolPost w true) := by
  have hl := fun W => lives05_calls W
  obtain ⟨b1, h1⟩ : ∃ v, decide ((100 : Int) < a.size) = v := ⟨_, rfl⟩
  obtain ⟨b2, h2⟩ : ∃ v, decide ((100 : Int) < b.size) = v := ⟨_, rfl⟩
  obtain ⟨b3, h3⟩ : ∃ v, decide ((100 : Int) < c.size) = v := ⟨_, rfl⟩
  rw [h1, h2, h3] at h
  cases b1 <;> cases b2 <;> cases b3 <;> (first | exact absurd h (by decide) | skip)
  all_goals
    clear h
    go_enter Tryd.func6, Tryd.ntmps6
    go_wp2_with fail
    refine (hl w).mono ?_
    rintro e w1 ⟨rfl, f1⟩
    go_wp2_with fail
    refine (hl w1).mono ?_
    rintro e w2 ⟨rfl, f2⟩
    go_wp2_with fail
    go_ret
    exact ⟨rfl, f1.then' f2⟩
set_option maxRecDepth 100000 in
set_option maxHeartbeats 3200000 in
theorem order_walk (w : World) (a b c : ByteArray) : Calls Tryd.prog 6 #[.string a, .string b, .string c] w (BoolPost w true) := by
  obtain ⟨b0, hb0⟩ : ∃ v, (decide ((100 : Int) < a.size) || decide ((100 : Int) < b.size) || decide ((100 : Int) < c.size)) = v := ⟨_, rfl⟩
  cases b0
  · simp only [Bool.or_eq_false_iff] at hb0
    obtain ⟨⟨h1, h2⟩, h3⟩ := hb0
    have hsa : a.size ≤ 1000000 := by have := of_decide_eq_false h1; omega
    have hl := fun W => lives05_calls W
    have kab := fun W => compare_calls W a b
    have kba := fun W => compare_calls W b a
    have kbc := fun W => compare_calls W b c
    have kac := fun W => compare_calls W a c
    have HT := hid (cmpS_trans a b c)
    have HX := hid (cmpS_range a b)
    have HY := hid (cmpS_range b c)
    have HST := hid (cmpS_step a b)
    have HEN := hid (cmpS_end a b)
    have HA := hid (str_at a)
    have HB := hid (str_at b)
    rw [cmpS_neg a b] at kba
    obtain ⟨x, hx⟩ : ∃ x, cmpS a b = x := ⟨_, rfl⟩
    obtain ⟨y, hy⟩ : ∃ x, cmpS b c = x := ⟨_, rfl⟩
    obtain ⟨z, hz⟩ : ∃ x, cmpS a c = x := ⟨_, rfl⟩
    rw [hx] at HT HX HST HEN kab kba
    rw [hy] at HT HY kbc
    rw [hz] at HT kac
    clear hx hy hz
    have T := fun (h : x ≤ 0) (h' : y ≤ 0) => (decide_eq_true (HT.out h h') : decide (z ≤ 0) = true)
    clear HT
    go_enter Tryd.func6, Tryd.ntmps6
    go_wp2_with fail
    refine (hl w).mono ?_
    rintro e w1 ⟨rfl, f1⟩
    go_wp2_with fail
    go_loopw [7, 8] (fun v i wr => Fr noB w wr ∧ ∃ k : Nat, i = .int .i64 k ∧ k ≤ a.size ∧ k ≤ b.size ∧ ((v = .int .i64 0 ∧ Hid (EqTo a b k)) ∨ (v = .int .i64 (-1) ∧ Hid (x = -1)) ∨ (v = .int .i64 1 ∧ Hid (x = 1)))) (fun _ i _ => a.size - (intOf i).toNat)
    case atStart => exact ⟨f1, 0, rfl, Nat.zero_le _, Nat.zero_le _, Or.inl ⟨rfl, fun j h => absurd h (by omega)⟩⟩
    case round =>
      obtain ⟨fr, k, rfl, hka, hkb, hv⟩ := hrel
      rcases hv with ⟨rfl, HE⟩ | ⟨rfl, HV⟩ | ⟨rfl, HV⟩
      · by_cases hk1 : k < a.size ∧ k < b.size
        · obtain ⟨hk1, hk2⟩ := hk1
          have hs := HST.out k hk1 hk2 HE.out
          obtain ⟨ca, hca⟩ : ∃ c, (a.data.toList.getD k 0).toNat = c := ⟨_, rfl⟩
          obtain ⟨cb, hcb⟩ : ∃ c, (b.data.toList.getD k 0).toNat = c := ⟨_, rfl⟩
          have ha0 : ∀ h : k < a.size, (a[k]'h).toNat = ca := fun h => by rw [HA.out k h, hca]
          have hb0 : ∀ h : k < b.size, (b[k]'h).toNat = cb := fun h => by rw [HB.out k h, hcb]
          rw [hca, hcb] at hs
          have HQ : ca = cb → Hid (EqTo a b (k + 1)) := fun h j hj => by
            rcases Nat.lt_succ_iff_lt_or_eq.mp hj with h1 | rfl
            · exact HE.out j h1
            · exact UInt8.toNat_inj.mp (by rw [hca, hcb, h])
          clear hca hcb
          have t1 : decide (k < a.size) = true := decide_eq_true (by omega)
          have t2 : decide (k < b.size) = true := decide_eq_true (by omega)
          rcases Nat.lt_trichotomy ca cb with hlt | heq | hgt
          · have t3 : ((ca : Int) != (cb : Int)) = true := by rw [bne_iff_ne]; omega
            have t4 : decide (ca < cb) = true := decide_eq_true hlt
            have HV := hid (hs.1 hlt)
            clear hs HQ hlt
            go_wp2_with fail
            go_quiet (fail)
            go_wp2_with fail
            go_quiet (fail)
            go_wp2_with fail
            go_roundw
            case rel => exact ⟨by first | exact (fr.drewN _).drewN _ | exact fr.drewN _, k + 1, by go_num, by omega, by omega, Or.inr (Or.inl ⟨rfl, HV⟩)⟩
            case measure => simp [intOf]; omega
          · have t3 : ((ca : Int) != (cb : Int)) = false := by rw [bne_eq_false_iff_eq]; omega
            have HV := HQ heq
            clear hs HQ heq
            go_wp2_with fail
            go_quiet (fail)
            go_wp2_with fail
            go_roundw
            case rel => exact ⟨by first | exact (fr.drewN _).drewN _ | exact fr.drewN _, k + 1, by go_num, by omega, by omega, Or.inl ⟨rfl, HV⟩⟩
            case measure => simp [intOf]; omega
          · have t3 : ((ca : Int) != (cb : Int)) = true := by rw [bne_iff_ne]; omega
            have t4 : decide (ca < cb) = false := decide_eq_false (by omega)
            have HV := hid (hs.2 hgt)
            clear hs HQ hgt
            go_wp2_with fail
            go_quiet (fail)
            go_wp2_with fail
            go_quiet (fail)
            go_wp2_with fail
            go_roundw
            case rel => exact ⟨by first | exact (fr.drewN _).drewN _ | exact fr.drewN _, k + 1, by go_num, by omega, by omega, Or.inr (Or.inr ⟨rfl, HV⟩)⟩
            case measure => simp [intOf]; omega
        · have hen := HEN.out (fun j h1 h2 => HE.out j (by omega))
          have hor : decide (k < a.size) = false ∨ (decide (k < a.size) = true ∧ decide (k < b.size) = false) := by
            by_cases h : k < a.size
            · exact Or.inr ⟨decide_eq_true (by omega), decide_eq_false (by omega)⟩
            · exact Or.inl (decide_eq_false (by omega))
          rcases Nat.lt_trichotomy a.size b.size with hlt | heq | hgt
          · rw [if_pos hlt] at hen
            subst hen
            have t3 : ((a.size : Int) != (b.size : Int)) = true := by rw [bne_iff_ne]; omega
            have t4 : decide (a.size < b.size) = true := decide_eq_true hlt
            clear hlt hk1
            rcases hor with t1 | ⟨t1, t2⟩
            all_goals
              rcases HY.out with rfl | rfl | rfl
              all_goals
                (try replace T := T (by decide) (by decide))
                (try simp only [Int.neg_zero] at kba)
                go_wp2_with (go_at_call 22; (first | (with_reducible refine (kab _).mono ?_) | (with_reducible refine (kba _).mono ?_) | (with_reducible refine (kbc _).mono ?_) | (with_reducible refine (kac _).mono ?_)); rintro e w' ⟨rfl, rfl⟩)
                go_ret
                exact ⟨rfl, fr⟩
          · rw [if_neg (by omega), if_neg (by omega)] at hen
            subst hen
            have t3 : ((a.size : Int) != (b.size : Int)) = false := by rw [bne_eq_false_iff_eq]; omega
            clear heq hk1
            rcases hor with t1 | ⟨t1, t2⟩
            all_goals
              rcases HY.out with rfl | rfl | rfl
              all_goals
                (try replace T := T (by decide) (by decide))
                (try simp only [Int.neg_zero] at kba)
                go_wp2_with (go_at_call 22; (first | (with_reducible refine (kab _).mono ?_) | (with_reducible refine (kba _).mono ?_) | (with_reducible refine (kbc _).mono ?_) | (with_reducible refine (kac _).mono ?_)); rintro e w' ⟨rfl, rfl⟩)
                go_ret
                exact ⟨rfl, fr⟩
          · rw [if_neg (by omega), if_pos hgt] at hen
            subst hen
            have t3 : ((a.size : Int) != (b.size : Int)) = true := by rw [bne_iff_ne]; omega
            have t4 : decide (a.size < b.size) = false := decide_eq_false (by omega)
            clear hgt hk1
            rcases hor with t1 | ⟨t1, t2⟩
            all_goals
              rcases HY.out with rfl | rfl | rfl
              all_goals
                (try replace T := T (by decide) (by decide))
                (try simp only [Int.neg_zero] at kba)
                go_wp2_with (go_at_call 22; (first | (with_reducible refine (kab _).mono ?_) | (with_reducible refine (kba _).mono ?_) | (with_reducible refine (kbc _).mono ?_) | (with_reducible refine (kac _).mono ?_)); rintro e w' ⟨rfl, rfl⟩)
                go_ret
                exact ⟨rfl, fr⟩
      · obtain rfl := HV.out
        rcases HY.out with rfl | rfl | rfl
        all_goals
          (try replace T := T (by decide) (by decide))
          (try simp only [Int.neg_zero] at kba)
          go_wp2_with (go_at_call 22; (first | (with_reducible refine (kab _).mono ?_) | (with_reducible refine (kba _).mono ?_) | (with_reducible refine (kbc _).mono ?_) | (with_reducible refine (kac _).mono ?_)); rintro e w' ⟨rfl, rfl⟩)
          go_ret
          exact ⟨rfl, fr⟩
      · obtain rfl := HV.out
        rcases HY.out with rfl | rfl | rfl
        all_goals
          (try replace T := T (by decide) (by decide))
          (try simp only [Int.neg_zero] at kba)
          go_wp2_with (go_at_call 22; (first | (with_reducible refine (kab _).mono ?_) | (with_reducible refine (kba _).mono ?_) | (with_reducible refine (kbc _).mono ?_) | (with_reducible refine (kac _).mono ?_)); rintro e w' ⟨rfl, rfl⟩)
          go_ret
          exact ⟨rfl, fr⟩
  · exact order_long w a b c hb0
end Go.Proofs.YtahcopmdffengaaDoor
