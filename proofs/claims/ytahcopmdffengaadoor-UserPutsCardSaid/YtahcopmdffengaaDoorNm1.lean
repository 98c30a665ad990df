/- package name's signs; interrexref05's rows of signs. -/
import Derived.Test.YtahcopmdffengaaDoorMem
import Derived.Test.YtahcopmdffengaaDoorConv
import Derived.WalkLawsBesides
namespace Go.Proofs.YtahcopmdffengaaDoor
open Go.RowKit

def letterB (c : Nat) : Bool := decide (97 ≤ c) && decide (c ≤ 122)
def digitB (c : Nat) : Bool := decide (48 ≤ c) && decide (c ≤ 57)
def signB (c : Nat) : Bool := letterB c || digitB c || decide (c = 45) || decide (c = 46)
def hexB (c : Nat) : Bool := digitB c || (decide (97 ≤ c) && decide (c ≤ 102))
def mailB (c : Nat) : Bool := letterB c || digitB c
def BQ (w : World) (b : Bool) (e : Ending) (w' : World) : Prop := e = .returned (.bool b) ∧ w = w'
def IQ (w : World) (n : Nat) (e : Ending) (w' : World) : Prop := e = .returned (.int .i64 n) ∧ w = w'
theorem letter_calls (w : World) (c : Nat) : Calls Tryd.prog 46 #[.int .u8 c] w (BQ w (letterB c)) := by
  obtain ⟨c1, h1⟩ : ∃ b, decide ((97 : Int) ≤ c) = b := ⟨_, rfl⟩
  obtain ⟨c2, h2⟩ : ∃ b, decide ((c : Int) ≤ 122) = b := ⟨_, rfl⟩
  have HV : Hid (letterB c = (c1 && c2)) := by
    unfold Hid letterB; rw [← h1, ← h2]
    congr 1
    · exact decide_eq_decide.2 (by omega)
    · exact decide_eq_decide.2 (by omega)
  cases c1 <;> cases c2
  all_goals
    go_enter Tryd.func46, Tryd.ntmps46
    go_wp2_with fail
    go_ret
    exact ⟨by rw [HV.out]; rfl, rfl⟩
theorem digit_calls (w : World) (c : Nat) : Calls Tryd.prog 47 #[.int .u8 c] w (BQ w (digitB c)) := by
  obtain ⟨c1, h1⟩ : ∃ b, decide ((48 : Int) ≤ c) = b := ⟨_, rfl⟩
  obtain ⟨c2, h2⟩ : ∃ b, decide ((c : Int) ≤ 57) = b := ⟨_, rfl⟩
  have HV : Hid (digitB c = (c1 && c2)) := by
    unfold Hid digitB; rw [← h1, ← h2]
    congr 1
    · exact decide_eq_decide.2 (by omega)
    · exact decide_eq_decide.2 (by omega)
  cases c1 <;> cases c2
  all_goals
    go_enter Tryd.func47, Tryd.ntmps47
    go_wp2_with fail
    go_ret
    exact ⟨by rw [HV.out]; rfl, rfl⟩
theorem mailS_calls (w : World) (c : Nat) : Calls Tryd.prog 45 #[.int .u8 c] w (BQ w (mailB c)) := by
  have hl := letter_calls w c
  have hd := digit_calls w c
  have HV : Hid (mailB c = (letterB c || digitB c)) := rfl
  generalize letterB c = c1 at *
  generalize digitB c = c2 at *
  cases c1 <;> cases c2
  all_goals
    go_enter Tryd.func45, Tryd.ntmps45
    go_wp2_with (first | (go_at_call 46; refine hl.mono ?_; rintro e w' ⟨rfl, rfl⟩) | (go_at_call 47; refine hd.mono ?_; rintro e w' ⟨rfl, rfl⟩))
    go_ret
    exact ⟨by rw [HV.out]; rfl, rfl⟩
theorem sign_calls (w : World) (c : Nat) : Calls Tryd.prog 49 #[.int .u8 c] w (BQ w (signB c)) := by
  have hl := letter_calls w c
  have hd := digit_calls w c
  obtain ⟨c3, h3⟩ : ∃ b, ((c : Int) == 45) = b := ⟨_, rfl⟩
  obtain ⟨c4, h4⟩ : ∃ b, ((c : Int) == 46) = b := ⟨_, rfl⟩
  have HV : Hid (signB c = (letterB c || digitB c || c3 || c4)) := by
    unfold Hid signB; rw [← h3, ← h4]
    congr 1
    · congr 1
      rw [Bool.eq_iff_iff]; simp; omega
    · rw [Bool.eq_iff_iff]; simp; omega
  generalize letterB c = c1 at *
  generalize digitB c = c2 at *
  cases c1 <;> cases c2 <;> cases c3 <;> cases c4
  all_goals
    go_enter Tryd.func49, Tryd.ntmps49
    go_wp2_with (first | (go_at_call 46; refine hl.mono ?_; rintro e w' ⟨rfl, rfl⟩) | (go_at_call 47; refine hd.mono ?_; rintro e w' ⟨rfl, rfl⟩))
    go_ret
    exact ⟨by rw [HV.out]; rfl, rfl⟩
theorem hashS_calls (w : World) (c : Nat) : Calls Tryd.prog 50 #[.int .u8 c] w (BQ w (hexB c)) := by
  have hd := digit_calls w c
  obtain ⟨c3, h3⟩ : ∃ b, decide ((97 : Int) ≤ c) = b := ⟨_, rfl⟩
  obtain ⟨c4, h4⟩ : ∃ b, decide ((c : Int) ≤ 102) = b := ⟨_, rfl⟩
  have HV : Hid (hexB c = (digitB c || (c3 && c4))) := by
    unfold Hid hexB; rw [← h3, ← h4]
    congr 1
    congr 1
    · exact decide_eq_decide.2 (by omega)
    · exact decide_eq_decide.2 (by omega)
  generalize digitB c = c2 at *
  cases c2 <;> cases c3 <;> cases c4
  all_goals
    go_enter Tryd.func50, Tryd.ntmps50
    go_wp2_with (go_at_call 47; refine hd.mono ?_; rintro e w' ⟨rfl, rfl⟩)
    go_ret
    exact ⟨by rw [HV.out]; rfl, rfl⟩
/-! ### over texts -/
theorem str_at (s : ByteArray) (j : Nat) (h : j < s.size) : (s[j]'h).toNat = (s.data.toList.getD j 0).toNat := by
  rw [List.getD_eq_getElem?_getD, List.getElem?_eq_getElem (by simpa using h)]
  simp
  rfl
def allS (is : Nat → Bool) (s : ByteArray) : Bool := s.data.toList.all fun b => is b.toNat
theorem all_take (is : Nat → Bool) (l : List UInt8) {k : Nat} (h : k < l.length) : (l.take (k + 1)).all (fun b => is b.toNat) = ((l.take k).all (fun b => is b.toNat) && is (l.getD k 0).toNat) := by
  rw [List.getD_eq_getElem?_getD, List.getElem?_eq_getElem h, List.take_succ_eq_append_getElem h, List.all_append]; simp
theorem all_false (is : Nat → Bool) (l : List UInt8) {k : Nat} (h : k < l.length) (hk : is (l.getD k 0).toNat = false) : l.all (fun b => is b.toNat) = false := by
  rw [← List.take_append_drop (k + 1) l, List.all_append, all_take is l h, hk]; simp
set_option maxRecDepth 100000 in
set_option maxHeartbeats 400000 in
theorem all_sign (w : World) (s : ByteArray) (hs : s.size ≤ 1000000) : Calls Tryd.prog 44 #[.string s, .func (.func 49) #[] #[]] w (BQ w (allS signB s)) := by
  have hx := str_at s
  have hc := fun c => sign_calls w c
  obtain ⟨bs, hbs⟩ : ∃ bs, s.data.toList = bs := ⟨_, rfl⟩
  have HA : Hid (allS signB s = bs.all fun b => signB b.toNat) := by unfold Hid allS; rw [hbs]
  have hlen : bs.length = s.size := by rw [← hbs]; simp
  rw [hbs] at hx
  have HL := hid hlen
  clear hbs hlen
  go_enter Tryd.func44, Tryd.ntmps44
  go_wp2_with fail
  go_loop [8] (fun i => ∃ k : Nat, k ≤ s.size ∧ i = .int .i64 k ∧ (bs.take k).all (fun b => signB b.toNat) = true) (fun i => s.size - (intOf i).toNat)
  case atStart => exact ⟨0, Nat.zero_le _, rfl, by simp⟩
  case round =>
    obtain ⟨k, hk, rfl, hall⟩ := hrel
    by_cases hkn : k < s.size
    · have hlt : k < bs.length := by rw [HL.out]; exact hkn
      have HT := hid (all_take signB bs hlt)
      have HF := hid (fun h => all_false signB bs hlt h)
      have hxk := hx k hkn
      obtain ⟨c, hcc⟩ : ∃ c, (bs.getD k 0).toNat = c := ⟨_, rfl⟩
      rw [hcc] at hxk HT HF
      have hcl := hc c
      have hkb : (k : Int) < s.size := by omega
      have HALL := hid hall
      obtain ⟨b, hb⟩ : ∃ b, signB c = b := ⟨_, rfl⟩
      rw [hb] at hcl HT HF
      clear hb hcc hall hx
      cases b
      · go_wp2_with fail
        refine hcl.mono ?_
        rintro e w' ⟨rfl, rfl⟩
        go_wp2_with fail
        go_ret
        exact ⟨by rw [HA.out, HF.out (by first | trivial | rfl)]; rfl, rfl⟩
      · go_wp2_with fail
        refine hcl.mono ?_
        rintro e w' ⟨rfl, rfl⟩
        go_wp2_with fail
        go_round
        case rel => exact ⟨k + 1, by omega, by go_num, by rw [HT.out, HALL.out]; rfl⟩
        case measure => simp [intOf]; omega
    · obtain rfl : k = s.size := by omega
      rw [List.take_of_length_le (by rw [HL.out]; exact Nat.le_refl _)] at hall
      have HALL := hid hall
      clear hall
      go_wp2_with fail
      go_ret
      exact ⟨by rw [HA.out, HALL.out]; rfl, rfl⟩
set_option maxRecDepth 100000 in
set_option maxHeartbeats 400000 in
theorem all_hashS (w : World) (s : ByteArray) (hs : s.size ≤ 1000000) : Calls Tryd.prog 44 #[.string s, .func (.func 50) #[] #[]] w (BQ w (allS hexB s)) := by
  have hx := str_at s
  have hc := fun c => hashS_calls w c
  obtain ⟨bs, hbs⟩ : ∃ bs, s.data.toList = bs := ⟨_, rfl⟩
  have HA : Hid (allS hexB s = bs.all fun b => hexB b.toNat) := by unfold Hid allS; rw [hbs]
  have hlen : bs.length = s.size := by rw [← hbs]; simp
  rw [hbs] at hx
  have HL := hid hlen
  clear hbs hlen
  go_enter Tryd.func44, Tryd.ntmps44
  go_wp2_with fail
  go_loop [8] (fun i => ∃ k : Nat, k ≤ s.size ∧ i = .int .i64 k ∧ (bs.take k).all (fun b => hexB b.toNat) = true) (fun i => s.size - (intOf i).toNat)
  case atStart => exact ⟨0, Nat.zero_le _, rfl, by simp⟩
  case round =>
    obtain ⟨k, hk, rfl, hall⟩ := hrel
    by_cases hkn : k < s.size
    · have hlt : k < bs.length := by rw [HL.out]; exact hkn
      have HT := hid (all_take hexB bs hlt)
      have HF := hid (fun h => all_false hexB bs hlt h)
      have hxk := hx k hkn
      obtain ⟨c, hcc⟩ : ∃ c, (bs.getD k 0).toNat = c := ⟨_, rfl⟩
      rw [hcc] at hxk HT HF
      have hcl := hc c
      have hkb : (k : Int) < s.size := by omega
      have HALL := hid hall
      obtain ⟨b, hb⟩ : ∃ b, hexB c = b := ⟨_, rfl⟩
      rw [hb] at hcl HT HF
      clear hb hcc hall hx
      cases b
      · go_wp2_with fail
        refine hcl.mono ?_
        rintro e w' ⟨rfl, rfl⟩
        go_wp2_with fail
        go_ret
        exact ⟨by rw [HA.out, HF.out (by first | trivial | rfl)]; rfl, rfl⟩
      · go_wp2_with fail
        refine hcl.mono ?_
        rintro e w' ⟨rfl, rfl⟩
        go_wp2_with fail
        go_round
        case rel => exact ⟨k + 1, by omega, by go_num, by rw [HT.out, HALL.out]; rfl⟩
        case measure => simp [intOf]; omega
    · obtain rfl : k = s.size := by omega
      rw [List.take_of_length_le (by rw [HL.out]; exact Nat.le_refl _)] at hall
      have HALL := hid hall
      clear hall
      go_wp2_with fail
      go_ret
      exact ⟨by rw [HA.out, HALL.out]; rfl, rfl⟩
set_option maxRecDepth 100000 in
set_option maxHeartbeats 400000 in
theorem all_mailS (w : World) (s : ByteArray) (hs : s.size ≤ 1000000) : Calls Tryd.prog 44 #[.string s, .func (.func 45) #[] #[]] w (BQ w (allS mailB s)) := by
  have hx := str_at s
  have hc := fun c => mailS_calls w c
  obtain ⟨bs, hbs⟩ : ∃ bs, s.data.toList = bs := ⟨_, rfl⟩
  have HA : Hid (allS mailB s = bs.all fun b => mailB b.toNat) := by unfold Hid allS; rw [hbs]
  have hlen : bs.length = s.size := by rw [← hbs]; simp
  rw [hbs] at hx
  have HL := hid hlen
  clear hbs hlen
  go_enter Tryd.func44, Tryd.ntmps44
  go_wp2_with fail
  go_loop [8] (fun i => ∃ k : Nat, k ≤ s.size ∧ i = .int .i64 k ∧ (bs.take k).all (fun b => mailB b.toNat) = true) (fun i => s.size - (intOf i).toNat)
  case atStart => exact ⟨0, Nat.zero_le _, rfl, by simp⟩
  case round =>
    obtain ⟨k, hk, rfl, hall⟩ := hrel
    by_cases hkn : k < s.size
    · have hlt : k < bs.length := by rw [HL.out]; exact hkn
      have HT := hid (all_take mailB bs hlt)
      have HF := hid (fun h => all_false mailB bs hlt h)
      have hxk := hx k hkn
      obtain ⟨c, hcc⟩ : ∃ c, (bs.getD k 0).toNat = c := ⟨_, rfl⟩
      rw [hcc] at hxk HT HF
      have hcl := hc c
      have hkb : (k : Int) < s.size := by omega
      have HALL := hid hall
      obtain ⟨b, hb⟩ : ∃ b, mailB c = b := ⟨_, rfl⟩
      rw [hb] at hcl HT HF
      clear hb hcc hall hx
      cases b
      · go_wp2_with fail
        refine hcl.mono ?_
        rintro e w' ⟨rfl, rfl⟩
        go_wp2_with fail
        go_ret
        exact ⟨by rw [HA.out, HF.out (by first | trivial | rfl)]; rfl, rfl⟩
      · go_wp2_with fail
        refine hcl.mono ?_
        rintro e w' ⟨rfl, rfl⟩
        go_wp2_with fail
        go_round
        case rel => exact ⟨k + 1, by omega, by go_num, by rw [HT.out, HALL.out]; rfl⟩
        case measure => simp [intOf]; omega
    · obtain rfl : k = s.size := by omega
      rw [List.take_of_length_le (by rw [HL.out]; exact Nat.le_refl _)] at hall
      have HALL := hid hall
      clear hall
      go_wp2_with fail
      go_ret
      exact ⟨by rw [HA.out, HALL.out]; rfl, rfl⟩
/-! ### the reference's rows of signs -/
def inS (c : Nat) (s : ByteArray) : Bool := s.data.toList.any fun b => b.toNat == c
theorem any_take (c : Nat) (l : List UInt8) {k : Nat} (h : k < l.length) : (l.take (k + 1)).any (fun b => b.toNat == c) = ((l.take k).any (fun b => b.toNat == c) || ((l.getD k 0).toNat == c)) := by
  rw [List.getD_eq_getElem?_getD, List.getElem?_eq_getElem h, List.take_succ_eq_append_getElem h, List.any_append]; simp
theorem any_true (c : Nat) (l : List UInt8) {k : Nat} (h : k < l.length) (hk : ((l.getD k 0).toNat == c) = true) : l.any (fun b => b.toNat == c) = true := by
  rw [← List.take_append_drop (k + 1) l, List.any_append, any_take c l h, hk]; simp
set_option maxRecDepth 100000 in
set_option maxHeartbeats 400000 in
theorem inS_calls (w : World) (c : Nat) (s : ByteArray) (hs : s.size ≤ 1000000) : Calls Tryd.prog 48 #[.int .u8 c, .string s] w (BQ w (inS c s)) := by
  have hx := str_at s
  obtain ⟨bs, hbs⟩ : ∃ bs, s.data.toList = bs := ⟨_, rfl⟩
  have HA : Hid (inS c s = bs.any fun b => b.toNat == c) := by unfold Hid inS; rw [hbs]
  have hlen : bs.length = s.size := by rw [← hbs]; simp
  rw [hbs] at hx
  have HL := hid hlen
  clear hbs hlen
  go_enter Tryd.func48, Tryd.ntmps48
  go_wp2_with fail
  go_loop [5] (fun i => ∃ k : Nat, k ≤ s.size ∧ i = .int .i64 k ∧ (bs.take k).any (fun b => b.toNat == c) = false) (fun i => s.size - (intOf i).toNat)
  case atStart => exact ⟨0, Nat.zero_le _, rfl, by simp⟩
  case round =>
    obtain ⟨k, hk, rfl, hall⟩ := hrel
    by_cases hkn : k < s.size
    · have hlt : k < bs.length := by rw [HL.out]; exact hkn
      have HT := hid (any_take c bs hlt)
      have HF := hid (fun h => any_true c bs hlt h)
      have hxk := hx k hkn
      obtain ⟨d, hcc⟩ : ∃ d, (bs.getD k 0).toNat = d := ⟨_, rfl⟩
      rw [hcc] at hxk HT HF
      have hkb : (k : Int) < s.size := by omega
      have HALL := hid hall
      obtain ⟨b, hb⟩ : ∃ b, ((d : Int) == (c : Int)) = b := ⟨_, rfl⟩
      have hb' := hb
      have hb2 : (d == c) = b := by rw [← hb, Bool.eq_iff_iff]; simp; omega
      rw [hb2] at HT HF
      clear hcc hall hx hb
      cases b
      · go_wp2_with fail
        go_round
        case rel => exact ⟨k + 1, by omega, by go_num, by rw [HT.out, HALL.out]; rfl⟩
        case measure => simp [intOf]; omega
      · go_wp2_with fail
        go_ret
        exact ⟨by rw [HA.out, HF.out (by first | trivial | rfl)]; rfl, rfl⟩
    · obtain rfl : k = s.size := by omega
      rw [List.take_of_length_le (by rw [HL.out]; exact Nat.le_refl _)] at hall
      have HALL := hid hall
      clear hall
      go_wp2_with fail
      go_ret
      exact ⟨by rw [HA.out, HALL.out]; rfl, rfl⟩
def ofS (s m : ByteArray) : Bool := allS (fun c => inS c m) s
set_option maxRecDepth 100000 in
set_option maxHeartbeats 400000 in
theorem ofS_calls (w : World) (s m : ByteArray) (hs : s.size ≤ 1000000) (hm : m.size ≤ 1000000) : Calls Tryd.prog 51 #[.string s, .string m] w (BQ w (ofS s m)) := by
  have hx := str_at s
  have hc := fun c => inS_calls w c m hm
  obtain ⟨is, his⟩ : ∃ is, (fun c => inS c m) = is := ⟨_, rfl⟩
  have his' : ∀ c, inS c m = is c := fun c => by rw [← his]
  obtain ⟨bs, hbs⟩ : ∃ bs, s.data.toList = bs := ⟨_, rfl⟩
  have HA : Hid (ofS s m = bs.all fun b => is b.toNat) := by unfold Hid ofS allS; rw [hbs, his]
  have hlen : bs.length = s.size := by rw [← hbs]; simp
  rw [hbs] at hx
  simp only [his'] at hc
  have HL := hid hlen
  clear hbs hlen his his'
  go_enter Tryd.func51, Tryd.ntmps51
  go_wp2_with fail
  go_loop [5] (fun i => ∃ k : Nat, k ≤ s.size ∧ i = .int .i64 k ∧ (bs.take k).all (fun b => is b.toNat) = true) (fun i => s.size - (intOf i).toNat)
  case atStart => exact ⟨0, Nat.zero_le _, rfl, by simp⟩
  case round =>
    obtain ⟨k, hk, rfl, hall⟩ := hrel
    by_cases hkn : k < s.size
    · have hlt : k < bs.length := by rw [HL.out]; exact hkn
      have HT := hid (all_take is bs hlt)
      have HF := hid (fun h => all_false is bs hlt h)
      have hxk := hx k hkn
      obtain ⟨c, hcc⟩ : ∃ c, (bs.getD k 0).toNat = c := ⟨_, rfl⟩
      rw [hcc] at hxk HT HF
      have hcl := hc c
      have hkb : (k : Int) < s.size := by omega
      have HALL := hid hall
      obtain ⟨b, hb⟩ : ∃ b, is c = b := ⟨_, rfl⟩
      rw [hb] at hcl HT HF
      clear hb hcc hall hx
      cases b
      · go_wp2_with fail
        refine hcl.mono ?_
        rintro e w' ⟨rfl, rfl⟩
        go_wp2_with fail
        go_ret
        exact ⟨by rw [HA.out, HF.out (by first | trivial | rfl)]; rfl, rfl⟩
      · go_wp2_with fail
        refine hcl.mono ?_
        rintro e w' ⟨rfl, rfl⟩
        go_wp2_with fail
        go_round
        case rel => exact ⟨k + 1, by omega, by go_num, by rw [HT.out, HALL.out]; rfl⟩
        case measure => simp [intOf]; omega
    · obtain rfl : k = s.size := by omega
      rw [List.take_of_length_le (by rw [HL.out]; exact Nat.le_refl _)] at hall
      have HALL := hid hall
      clear hall
      go_wp2_with fail
      go_ret
      exact ⟨by rw [HA.out, HALL.out]; rfl, rfl⟩
end Go.Proofs.YtahcopmdffengaaDoor
