/- strings.Split at a stop. -/
import Derived.Test.YtahcopmdffengaaDoorNm5
import Derived.Deep.Cut
import Derived.Laws.MakeOwn
import Derived.Test.YtahcopmdffengaaDoorBlk
namespace Go.Proofs.YtahcopmdffengaaDoor
open Go.RowKit
def splitL (c : UInt8) : List UInt8 → List (List UInt8)
  | [] => [[]]
  | b :: l => if b = c then [] :: splitL c l else (match splitL c l with | p :: ps => (b :: p) :: ps | [] => [[b]])
theorem split_miss (c : UInt8) : ∀ l : List UInt8, ¬ atB c l < l.length → splitL c l = [l]
  | [], _ => rfl
  | b :: l, h => by
    unfold atB at h
    by_cases hb : b = c
    · rw [if_pos hb] at h; simp at h
    · rw [if_neg hb] at h
      unfold splitL
      rw [if_neg hb, split_miss c l (by simp at h; omega)]
theorem split_hit (c : UInt8) : ∀ l : List UInt8, atB c l < l.length → splitL c l = l.take (atB c l) :: splitL c (l.drop (atB c l + 1))
  | [], h => by simp [atB] at h
  | b :: l, h => by
    unfold atB at h ⊢
    by_cases hb : b = c
    · rw [if_pos hb]
      conv => lhs; unfold splitL
      rw [if_pos hb]; simp
    · rw [if_neg hb] at h ⊢
      conv => lhs; unfold splitL
      rw [if_neg hb, split_hit c l (by simp at h; omega)]
      simp
theorem count_hit (c : UInt8) : ∀ l : List UInt8, atB c l < l.length → l.count c = (l.drop (atB c l + 1)).count c + 1
  | [], h => by simp [atB] at h
  | b :: l, h => by
    unfold atB at h ⊢
    by_cases hb : b = c
    · subst hb; simp
    · rw [if_neg hb] at h ⊢
      rw [List.count_cons_of_ne hb, count_hit c l (by simp at h; omega)]; simp
theorem count_le' (c : UInt8) (l : List UInt8) : l.count c ≤ l.length := List.count_le_length
/-- What lies in the row: the pieces that are known, and empty texts. -/
def rowSp (done : List (List UInt8)) (n : Nat) : List Value := done.map (fun p => .string (mkS p)) ++ List.replicate (n - done.length) (.string ⟨#[]⟩)
theorem rowSp_set {done : List (List UInt8)} {n : Nat} (h : done.length < n) (p : List UInt8) : (rowSp done n).set done.length (.string (mkS p)) = rowSp (done ++ [p]) n := by
  unfold rowSp
  rw [List.set_append_right _ _ (by simp)]
  have e : done.length - (done.map fun p => Value.string (mkS p)).length = 0 := by simp
  rw [e, show n - done.length = (n - (done ++ [p]).length) + 1 by simp; omega, List.replicate_succ, List.set_cons_zero]
  simp
theorem add_zero_mid (q j : Nat) : (⟨q, 0, none⟩ : Addr).add j = ⟨q, j, none⟩ := by unfold Addr.add; split <;> simp_all
set_option maxRecDepth 100000 in
set_option maxHeartbeats 400000 in
theorem genSplit_calls (w : World) (s : ByteArray) (hs : s.size ≤ 1000000) : Calls Tryd.prog 75 #[.string s, .string ⟨#[46]⟩, .int .i64 0, .int .i64 (-1)] w
    (fun e w' => ∃ A n c, e = .returned (.slice A n c) ∧ (splitL 46 s.data.toList).length = n ∧ RowAt w' A ((splitL 46 s.data.toList).map fun p => .string (mkS p)) ∧ n ≤ 1000001 ∧ Fr noB w w') := by
  have hco := countS_calls w s 46
  have hcl := count_le' 46 s.data.toList
  have hlen : s.data.toList.length = s.size := by simp
  obtain ⟨n, hn⟩ : ∃ n, s.data.toList.count 46 = n := ⟨_, rfl⟩
  rw [hn] at hco hcl
  rw [hlen] at hcl
  obtain ⟨m, hm⟩ : ∃ m, n + 1 = m := ⟨_, rfl⟩
  have hm1 : (n : Int) + 1 = (m : Int) := by omega
  have hm2 : (m : Int) - 1 = (n : Int) := by omega
  have hmin : min (m : Int) ((s.size : Int) + 1) = m := by omega
  obtain ⟨i9, hi9, hz9, hs9, hb9⟩ := info_parts (show (Tryd.prog.info? 9).map (fun i => (i.zero, i.size, i.bytes)) = some (some (.string ⟨#[]⟩), 1, 16) by kernel_rfl)
  have mk2 : ∀ W, (Instr.makeSlice 33 (.int .i64 (m : Int)) (.int .i64 (m : Int))).run Tryd.prog W = .ok (.slice (some ⟨W.heap.size, 0, none⟩) m m) (W.alloc (.cells (madeCells #[Value.string ⟨#[]⟩] m) 9)) := fun W => by
    have := run_make (P := Tryd.prog) W 33 9 i9 _ Tryd.underlying33 hi9 hz9 .i64 .i64 m m (by omega) (by omega) (by rw [hb9]; omega) (by omega)
    simp only [Int.toNat_natCast, hs9, Nat.mul_one] at this
    exact this
  clear hi9 hz9 hs9 hb9
  have hmade : madeCells #[Value.string ⟨#[]⟩] m = (rowSp [] m).toArray := by
    unfold madeCells rowSp
    apply Array.ext'
    rw [show (List.map (fun p => Value.string (mkS p)) [] ++ List.replicate (m - ([] : List (List UInt8)).length) (Value.string ⟨#[]⟩)) = List.replicate m (Value.string ⟨#[]⟩) by simp]
    rw [List.eq_replicate_iff]
    refine ⟨by simp, fun b hb => ?_⟩
    simp only [Array.toList_map, List.mem_map] at hb
    obtain ⟨x, _, rfl⟩ := hb
    rw [show x % (#[Value.string ⟨#[]⟩] : Array Value).size = 0 from Nat.mod_one x]
    rfl
  have hz : BlkAt (w.alloc (.cells (madeCells #[Value.string ⟨#[]⟩] m) 9)) w.heap.size 9 (rowSp [] m).toArray := by
    rw [hmade]; exact BlkAt.new _ _ _
  have f0 : Fr noB w (w.alloc (.cells (madeCells #[Value.string ⟨#[]⟩] m) 9)) := (Fr.refl noB w).alloc _
  have HN := hid hn
  have HM := hid hm
  have hms := hm2
  clear hn hm hmade hlen
  go_enter Tryd.func75, Tryd.ntmps75
  go_upto_region 9 with (go_at_call 88; refine hco.mono ?_; rintro e w' ⟨rfl, rfl⟩)
  clear mk2
  generalize (w.alloc (.cells (madeCells #[Value.string ⟨#[]⟩] m) 9)) = wa at *
  obtain ⟨q, hq⟩ : ∃ q, w.heap.size = q := ⟨_, rfl⟩
  rw [hq] at hz ⊢
  have HQ := hid hq
  clear hco hmin hq hm1 hms
  go_wp2_with fail
  go_loopw [0, 10] (fun sv i wr => ∃ (k : Nat) (s1 : ByteArray) (done : List (List UInt8)), sv = .string s1 ∧ i = .int .i64 k ∧ done.length = k ∧ splitL 46 s.data.toList = done ++ splitL 46 s1.data.toList ∧ n = k + s1.data.toList.count 46 ∧ s1.size ≤ s.size ∧ BlkAt wr q 9 (rowSp done m).toArray ∧ Fr noB w wr) (fun _ i _ => n - (intOf i).toNat)
  case atStart => exact ⟨0, s, [], rfl, rfl, rfl, rfl, by rw [HN.out]; omega, Nat.le_refl _, hz, f0⟩
  case round =>
    clear hz f0
    obtain ⟨k, s1, done, rfl, rfl, hdl, hsp, hct, hss, hb, hf⟩ := hrel
    have hix := fun W => indexS_calls W s1 46
    have hl1 : s1.data.toList.length = s1.size := by simp
    have hcell : wr.cell? ⟨q, k, none⟩ = some (.string ⟨#[]⟩) ∧ ∀ j, wr.frozen? ⟨q, j, none⟩ = false := by
      refine ⟨hb.cell ?_, hb.free⟩
      have hmk : k < m := by have := HM.out; omega
      rw [List.getElem?_toArray]
      unfold rowSp
      rw [List.getElem?_append_right (by rw [List.length_map]; omega), List.length_map, List.getElem?_replicate, if_pos (by omega)]
    obtain ⟨hc0, hfz⟩ := hcell
    have hmk : (k : Int) < m := by have := HM.out; omega
    have HS := hid (fun p => rowSp_set (done := done) (n := m) (by have := HM.out; omega) p)
    have HDL := hid hdl
    have HSP := hid hsp
    have HCT := hid hct
    by_cases hkn : k < n
    · have hat : atB 46 s1.data.toList < s1.data.toList.length := (count_pos 46 _).1 (by omega)
      have hch := count_hit 46 _ hat
      have hsh := split_hit 46 _ hat
      have htk := ext_take s1 (atB 46 s1.data.toList)
      have hdr := ext_drop s1 (atB 46 s1.data.toList + 1)
      have hiv : ixV 46 s1.data.toList = (atB 46 s1.data.toList : Int) := by unfold ixV; rw [if_pos hat]
      rw [hiv] at hix
      rw [hl1] at hat
      obtain ⟨p, hp⟩ : ∃ p, s1.data.toList.take (atB 46 s1.data.toList) = p := ⟨_, rfl⟩
      obtain ⟨r, hr⟩ : ∃ r, s1.data.toList.drop (atB 46 s1.data.toList + 1) = r := ⟨_, rfl⟩
      have hrl : r.length ≤ s1.size := by rw [← hr, List.length_drop]; omega
      rw [hp] at htk hsh
      rw [hr] at hdr hsh hch
      generalize atB 46 s1.data.toList = j at *
      have HCH := hid hch
      have HSH := hid hsh
      have hst := hb.set k (.string (mkS p))
      have f2 : Fr noB w (wr.setCell ⟨q, k, none⟩ (.string (mkS p))) := hf.trans (fr_set1 wr q k _) (fun i hi h => by unfold eqB at h; have := HQ.out; omega)
      have hjb : 0 ≤ (j : Int) ∧ (j : Int) < s1.size := ⟨by omega, by omega⟩
      have tj : decide ((j : Int) < 0) = false := decide_eq_false (by omega)
      clear hp hr hiv hch hsh hct hsp hdl hl1
      go_wp2_with (go_at_call 89; refine (hix _).mono ?_; rintro e w' ⟨rfl, rfl⟩)
      have hset : BlkAt (wr.setCell ⟨q, k, none⟩ (.string (mkS p))) q 9 (rowSp (done ++ [p]) m).toArray := by
        rw [← HS.out p, HDL.out, ← List.setIfInBounds_toArray]; exact hst
      go_roundw
      case rel => exact ⟨k + 1, mkS r, done ++ [p], rfl, by go_num, by rw [List.length_append, HDL.out]; rfl, by rw [HSP.out, HSH.out, mkS_data, List.append_assoc]; rfl, by rw [HCT.out, HCH.out, mkS_data]; omega, by rw [mkS_size]; omega, hset, f2⟩
      case measure => simp [intOf]; omega
    · have hk : k = n := by omega
      have hna : ¬ atB 46 s1.data.toList < s1.data.toList.length := fun h => by have := (count_pos 46 _).2 h; omega
      have hsm := split_miss 46 _ hna
      have hst := hb.set k (.string s1)
      have hset : BlkAt (wr.setCell ⟨q, k, none⟩ (.string s1)) q 9 (rowSp (done ++ [s1.data.toList]) m).toArray := by
        rw [← HS.out, HDL.out, ← List.setIfInBounds_toArray, mkS_of]; exact hst
      have f2 : Fr noB w (wr.setCell ⟨q, k, none⟩ (.string s1)) := hf.trans (fr_set1 wr q k _) (fun i hi h => by unfold eqB at h; have := HQ.out; omega)
      have hmk2 : (k : Int) + 1 = (m : Int) := by have := HM.out; omega
      have hfin : splitL 46 s.data.toList = done ++ [s1.data.toList] := by rw [HSP.out, hsm]
      have hrow : RowAt (wr.setCell ⟨q, k, none⟩ (.string s1)) (some ⟨q, 0, none⟩) ((splitL 46 s.data.toList).map fun p => .string (mkS p)) := by
        intro j u hu
        refine ⟨_, rfl, ?_⟩
        rw [add_zero_mid]
        refine hset.cell ?_
        rw [List.getElem?_toArray]
        rw [hfin] at hu
        unfold rowSp
        rw [List.getElem?_append_left (by have := (List.getElem?_eq_some_iff.1 hu).1; simpa using this)]
        exact hu
      have hln : (splitL 46 s.data.toList).length = m := by rw [hfin, List.length_append, HDL.out, List.length_singleton]; have := HM.out; omega
      have HR := hid hrow
      have HLN := hid hln
      clear hrow hln hfin hset hst hsm hct hsp hdl hl1 hna hix
      subst hk
      go_wp2_with fail
      go_ret
      exact ⟨some ⟨q, 0, none⟩, m, m, rfl, HLN.out, HR.out, by have := HM.out; omega, f2⟩
set_option maxRecDepth 100000 in
theorem split_calls (w : World) (s : ByteArray) (hs : s.size ≤ 1000000) : Calls Tryd.prog 42 #[.string s, .string ⟨#[46]⟩] w
    (fun e w' => ∃ A n c, e = .returned (.slice A n c) ∧ (splitL 46 s.data.toList).length = n ∧ RowAt w' A ((splitL 46 s.data.toList).map fun p => .string (mkS p)) ∧ n ≤ 1000001 ∧ Fr noB w w') := by
  have hg := genSplit_calls w s hs
  go_enter Tryd.func42, Tryd.ntmps42
  go_wp2_with fail
  refine hg.mono ?_
  rintro e w1 ⟨A, n, c, rfl, h1, h2, h3, f1⟩
  have H1 := hid h1
  have H3 := hid h3
  clear h1 h3 hg
  go_wp2_with fail
  go_ret
  exact ⟨A, n, c, rfl, H1.out, h2, H3.out, f1⟩
end Go.Proofs.YtahcopmdffengaaDoor
