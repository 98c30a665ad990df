/- name.Name, Prefix, Hash, and the reference's. -/
import Derived.Test.YtahcopmdffengaaDoorNm1
import Derived.Deep.Cut
namespace Go.Proofs.YtahcopmdffengaaDoor
open Go.RowKit
def nameS (s : ByteArray) : Bool := decide (1 ≤ s.size) && decide (s.size ≤ 12) && letterB (s.data.toList.getD 0 0).toNat && allS signB s && mailB (s.data.toList.getD (s.size - 1) 0).toNat
set_option maxRecDepth 100000 in
set_option maxHeartbeats 400000 in
theorem isName_calls (w : World) (s : ByteArray) (hs : s.size ≤ 1000000) : Calls Tryd.prog 43 #[.string s] w (BQ w (nameS s)) := by
  have hx := str_at s
  have hl := fun c => letter_calls w c
  have hd := fun c => digit_calls w c
  have ha := all_sign w s hs
  by_cases h0 : s.size = 0
  · have HV : Hid (nameS s = false) := by unfold Hid nameS; simp [h0]
    have he : s = ⟨#[]⟩ := by
      have : s.data.size = 0 := h0
      cases s; rename_i d; simp at this; simp [this]
    subst he
    clear hx h0 ha
    go_enter Tryd.func43, Tryd.ntmps43
    go_wp2_with fail
    go_ret
    exact ⟨by rw [HV.out]; rfl, rfl⟩
  · obtain ⟨n1, hn1⟩ : ∃ n1, s.size = n1 + 1 := ⟨s.size - 1, by omega⟩
    have hie : s.toList.isEmpty = false := by
      cases h : s.toList with
      | nil =>
        have : s.toList.length = s.size := by rw [ByteArray.toList_eq]; simp
        rw [h] at this; simp at this; omega
      | cons a l => rfl
    obtain ⟨c0, hc0⟩ : ∃ c, (s.data.toList.getD 0 0).toNat = c := ⟨_, rfl⟩
    obtain ⟨c1, hc1⟩ : ∃ c, (s.data.toList.getD n1 0).toNat = c := ⟨_, rfl⟩
    have hx0 : ∀ h : 0 < s.data.size, (s.data[0]'h).toNat = c0 := fun h => by rw [← hc0, ← hx 0 h]; rfl
    have hx3 : ∀ h : 0 < s.size, (s[0]'h).toNat = c0 := fun h => by rw [← hc0, ← hx 0 h]
    have hx1 : ∀ h : n1 < s.data.size, (s.data[n1]'h).toNat = c1 := fun h => by rw [← hc1, ← hx n1 h]; rfl
    have hx2 : ∀ h : n1 < s.size, (s[n1]'h).toNat = c1 := fun h => by rw [← hc1, ← hx n1 h]
    have HV : Hid (nameS s = (decide (n1 + 1 ≤ 12) && letterB c0 && allS signB s && (letterB c1 || digitB c1))) := by
      unfold Hid nameS mailB
      rw [hc0, show s.size - 1 = n1 by omega, hc1, hn1]
      simp
    have hl0 := hl c0
    have hl1 := hl c1
    have hd1 := hd c1
    have hsub : (s.size : Int) - 1 = n1 := by omega
    have hpos : 0 < s.size := by omega
    have hlt1 : n1 < s.size := by omega
    obtain ⟨b0, hb0⟩ : ∃ b, decide ((12 : Int) < s.size) = b := ⟨_, rfl⟩
    have hb0' : decide (n1 + 1 ≤ 12) = !b0 := by
      rw [← hb0, Bool.eq_iff_iff]; simp; omega
    rw [hb0'] at HV
    have HN := hid hn1
    clear hx hc0 hc1 hl hd h0 hb0' hn1
    generalize letterB c0 = v0 at *
    generalize letterB c1 = v1 at *
    generalize digitB c1 = v2 at *
    generalize allS signB s = v3 at *
    cases b0 <;> cases v0 <;> cases v3 <;> cases v1 <;> cases v2
    all_goals
      go_enter Tryd.func43, Tryd.ntmps43
      go_wp2_with (first | (go_at_call 46; (first | (with_reducible refine hl0.mono ?_) | (with_reducible refine hl1.mono ?_)); rintro e w' ⟨rfl, rfl⟩) | (go_at_call 47; refine hd1.mono ?_; rintro e w' ⟨rfl, rfl⟩) | (go_at_call 44; refine ha.mono ?_; rintro e w' ⟨rfl, rfl⟩))
      go_ret
      exact ⟨by rw [HV.out]; rfl, rfl⟩
def errN (b : Bool) (k : Nat) : Nat := if b then 0 else k
set_option maxRecDepth 100000 in
theorem name_calls05 (w : World) (s : ByteArray) (hs : s.size ≤ 1000000) : Calls Tryd.prog 16 #[.string s] w (IQ w (errN (nameS s) 10)) := by
  have hn := isName_calls w s hs
  generalize nameS s = b at *
  cases b
  all_goals
    go_enter Tryd.func16, Tryd.ntmps16
    go_wp2_with (refine hn.mono ?_; rintro e w' ⟨rfl, rfl⟩)
    go_ret
    exact ⟨rfl, rfl⟩
def prefS (s : ByteArray) : Bool := decide (s.size ≤ 12) && allS signB s
set_option maxRecDepth 100000 in
theorem prefix_calls05 (w : World) (s : ByteArray) (hs : s.size ≤ 1000000) : Calls Tryd.prog 17 #[.string s] w (IQ w (errN (prefS s) 10)) := by
  have ha := all_sign w s hs
  obtain ⟨b0, hb0⟩ : ∃ b, decide ((12 : Int) < s.size) = b := ⟨_, rfl⟩
  have HV : Hid (prefS s = (!b0 && allS signB s)) := by
    unfold Hid prefS; rw [← hb0]; congr 1; rw [Bool.eq_iff_iff]; simp; omega
  generalize allS signB s = b at *
  cases b0 <;> cases b
  all_goals
    go_enter Tryd.func17, Tryd.ntmps17
    go_wp2_with (refine ha.mono ?_; rintro e w' ⟨rfl, rfl⟩)
    go_ret
    exact ⟨by rw [HV.out]; rfl, rfl⟩
def hashS (s : ByteArray) : Bool := decide (1 ≤ s.size) && decide (s.size ≤ 12) && allS hexB s
theorem empty_of {s : ByteArray} (h : s.size = 0) : s = ⟨#[]⟩ := by
  have : s.data.size = 0 := h
  cases s; rename_i d; simp at this; simp [this]
theorem isEmpty_of {s : ByteArray} (h : 1 ≤ s.size) : s.toList.isEmpty = false := by
  cases hl : s.toList with
  | nil =>
    have : s.toList.length = s.size := by rw [ByteArray.toList_eq]; simp
    rw [hl] at this; simp at this; omega
  | cons a l => rfl
set_option maxRecDepth 100000 in
theorem hash_calls05 (w : World) (s : ByteArray) (hs : s.size ≤ 1000000) : Calls Tryd.prog 18 #[.string s] w (IQ w (errN (hashS s) 4)) := by
  have ha := all_hashS w s hs
  by_cases h0 : s.size = 0
  · have HV : Hid (hashS s = false) := by unfold Hid hashS; simp [h0]
    obtain rfl := empty_of h0
    clear h0 ha
    go_enter Tryd.func18, Tryd.ntmps18
    go_wp2_with fail
    go_ret
    exact ⟨by rw [HV.out]; rfl, rfl⟩
  · have hie := isEmpty_of (s := s) (by omega)
    obtain ⟨b0, hb0⟩ : ∃ b, decide ((12 : Int) < s.size) = b := ⟨_, rfl⟩
    have HV : Hid (hashS s = (!b0 && allS hexB s)) := by
      unfold Hid hashS; rw [← hb0, decide_eq_true (show 1 ≤ s.size by omega), Bool.true_and]; congr 1; rw [Bool.eq_iff_iff]; simp; omega
    generalize allS hexB s = b at *
    clear h0
    cases b0 <;> cases b
    all_goals
      go_enter Tryd.func18, Tryd.ntmps18
      go_wp2_with (refine ha.mono ?_; rintro e w' ⟨rfl, rfl⟩)
      go_ret
      exact ⟨by rw [HV.out]; rfl, rfl⟩
/-! ### the reference -/
def lettersS : ByteArray := ⟨#[97, 98, 99, 100, 101, 102, 103, 104, 105, 106, 107, 108, 109, 110, 111, 112, 113, 114, 115, 116, 117, 118, 119, 120, 121, 122]⟩
def alnumS : ByteArray := ⟨#[97, 98, 99, 100, 101, 102, 103, 104, 105, 106, 107, 108, 109, 110, 111, 112, 113, 114, 115, 116, 117, 118, 119, 120, 121, 122, 48, 49, 50, 51, 52, 53, 54, 55, 56, 57]⟩
def signsS : ByteArray := ⟨#[97, 98, 99, 100, 101, 102, 103, 104, 105, 106, 107, 108, 109, 110, 111, 112, 113, 114, 115, 116, 117, 118, 119, 120, 121, 122, 48, 49, 50, 51, 52, 53, 54, 55, 56, 57, 45, 46]⟩
def hexS : ByteArray := ⟨#[48, 49, 50, 51, 52, 53, 54, 55, 56, 57, 97, 98, 99, 100, 101, 102]⟩
set_option maxRecDepth 100000 in
theorem in_letters : ∀ c, c < 256 → inS c lettersS = letterB c := by decide +kernel
set_option maxRecDepth 100000 in
theorem in_alnum : ∀ c, c < 256 → inS c alnumS = mailB c := by decide +kernel
set_option maxRecDepth 100000 in
theorem in_signs : ∀ c, c < 256 → inS c signsS = signB c := by decide +kernel
set_option maxRecDepth 100000 in
theorem in_hex : ∀ c, c < 256 → inS c hexS = hexB c := by decide +kernel
theorem allS_congr {f g : Nat → Bool} (h : ∀ c, c < 256 → f c = g c) (s : ByteArray) : allS f s = allS g s := by
  unfold allS
  congr 1
  funext b
  exact h _ b.toNat_lt
theorem of_signs (s : ByteArray) : ofS s signsS = allS signB s := allS_congr in_signs s
theorem of_hex (s : ByteArray) : ofS s hexS = allS hexB s := allS_congr in_hex s
set_option maxRecDepth 100000 in
theorem prefR_calls (w : World) (s : ByteArray) (hs : s.size ≤ 1000000) : Calls Tryd.prog 20 #[.string s] w (BQ w (prefS s)) := by
  have ha := ofS_calls w s signsS hs (by decide)
  rw [of_signs] at ha
  obtain ⟨b0, hb0⟩ : ∃ b, decide ((s.size : Int) ≤ 12) = b := ⟨_, rfl⟩
  have HV : Hid (prefS s = (b0 && allS signB s)) := by
    unfold Hid prefS; rw [← hb0]; congr 1; rw [Bool.eq_iff_iff]; simp; omega
  generalize allS signB s = b at *
  unfold signsS at ha
  cases b0 <;> cases b
  all_goals
    go_enter Tryd.func20, Tryd.ntmps20
    go_wp2_with (refine ha.mono ?_; rintro e w' ⟨rfl, rfl⟩)
    go_ret
    exact ⟨by rw [HV.out]; rfl, rfl⟩
set_option maxRecDepth 100000 in
theorem hashR_calls05 (w : World) (s : ByteArray) (hs : s.size ≤ 1000000) : Calls Tryd.prog 21 #[.string s] w (BQ w (hashS s)) := by
  have ha := ofS_calls w s hexS hs (by decide)
  rw [of_hex] at ha
  obtain ⟨b0, hb0⟩ : ∃ b, decide ((s.size : Int) ≤ 12) = b := ⟨_, rfl⟩
  obtain ⟨b1, hb1⟩ : ∃ b, decide ((1 : Int) ≤ s.size) = b := ⟨_, rfl⟩
  have HV : Hid (hashS s = (b1 && b0 && allS hexB s)) := by
    unfold Hid hashS; rw [← hb0, ← hb1]; congr 1; congr 1 <;> (rw [Bool.eq_iff_iff]; simp) <;> omega
  generalize allS hexB s = b at *
  unfold hexS at ha
  cases b0 <;> cases b1 <;> cases b
  all_goals
    go_enter Tryd.func21, Tryd.ntmps21
    go_wp2_with (refine ha.mono ?_; rintro e w' ⟨rfl, rfl⟩)
    go_ret
    exact ⟨by rw [HV.out]; rfl, rfl⟩
set_option maxRecDepth 100000 in
set_option maxHeartbeats 400000 in
theorem nameR_calls (w : World) (s : ByteArray) (hs : s.size ≤ 1000000) : Calls Tryd.prog 19 #[.string s] w (BQ w (nameS s)) := by
  have ha := ofS_calls w s signsS hs (by decide)
  rw [of_signs] at ha
  have hx := str_at s
  have hil := fun c => inS_calls w c lettersS (by decide)
  have hia := fun c => inS_calls w c alnumS (by decide)
  by_cases h0 : s.size = 0
  · have HV : Hid (nameS s = false) := by unfold Hid nameS; simp [h0]
    obtain rfl := empty_of h0
    clear h0 ha hx hil hia
    go_enter Tryd.func19, Tryd.ntmps19
    go_wp2_with fail
    go_ret
    exact ⟨by rw [HV.out]; rfl, rfl⟩
  · obtain ⟨n1, hn1⟩ : ∃ n1, s.size = n1 + 1 := ⟨s.size - 1, by omega⟩
    obtain ⟨c0, hc0⟩ : ∃ c, (s.data.toList.getD 0 0).toNat = c := ⟨_, rfl⟩
    obtain ⟨c1, hc1⟩ : ∃ c, (s.data.toList.getD n1 0).toNat = c := ⟨_, rfl⟩
    have hx0 : ∀ h : 0 < s.data.size, (s.data[0]'h).toNat = c0 := fun h => by rw [← hc0, ← hx 0 h]; rfl
    have hx3 : ∀ h : 0 < s.size, (s[0]'h).toNat = c0 := fun h => by rw [← hc0, ← hx 0 h]
    have hx1 : ∀ h : n1 < s.data.size, (s.data[n1]'h).toNat = c1 := fun h => by rw [← hc1, ← hx n1 h]; rfl
    have hx2 : ∀ h : n1 < s.size, (s[n1]'h).toNat = c1 := fun h => by rw [← hc1, ← hx n1 h]
    have hl0 := hil c0
    have hl1 := hia c1
    rw [in_letters c0 (by rw [← hc0]; exact UInt8.toNat_lt _)] at hl0
    rw [in_alnum c1 (by rw [← hc1]; exact UInt8.toNat_lt _)] at hl1
    have HV : Hid (nameS s = (decide (n1 + 1 ≤ 12) && letterB c0 && allS signB s && mailB c1)) := by
      unfold Hid nameS
      rw [hc0, show s.size - 1 = n1 by omega, hc1, hn1]
      simp
    have hsub : (s.size : Int) - 1 = n1 := by omega
    have hpos : 0 < s.size := by omega
    have hlt1 : n1 < s.size := by omega
    have t1 : decide ((1 : Int) ≤ s.size) = true := decide_eq_true (by omega)
    obtain ⟨b0, hb0⟩ : ∃ b, decide ((s.size : Int) ≤ 12) = b := ⟨_, rfl⟩
    have hb0' : decide (n1 + 1 ≤ 12) = b0 := by
      rw [← hb0, Bool.eq_iff_iff]; simp; omega
    rw [hb0'] at HV
    have HN := hid hn1
    clear hx hc0 hc1 hil hia h0 hb0' hn1
    generalize letterB c0 = v0 at *
    generalize mailB c1 = v1 at *
    generalize allS signB s = v3 at *
    unfold lettersS at hl0
    unfold alnumS at hl1
    unfold signsS at ha
    cases b0 <;> cases v0 <;> cases v3 <;> cases v1
    all_goals
      go_enter Tryd.func19, Tryd.ntmps19
      go_wp2_with (first | (go_at_call 48; (first | (with_reducible refine hl0.mono ?_) | (with_reducible refine hl1.mono ?_)); rintro e w' ⟨rfl, rfl⟩) | (go_at_call 51; refine ha.mono ?_; rintro e w' ⟨rfl, rfl⟩))
      go_ret
      exact ⟨by rw [HV.out]; rfl, rfl⟩
end Go.Proofs.YtahcopmdffengaaDoor
