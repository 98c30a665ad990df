/- name.Fold. -/
import Derived.Test.YtahcopmdffengaaDoorNm2
import Derived.Test.YtahcopmdffengaaDoorBlk
import Derived.Test.YtahcopmdffengaaDoorRef1
namespace Go.Proofs.YtahcopmdffengaaDoor
open Go.RowKit
def foldC (c : UInt8) : UInt8 := if 65 ≤ c.toNat ∧ c.toNat ≤ 90 then UInt8.ofNat (c.toNat + 32) else c
def foldL (l : List UInt8) : List UInt8 := l.map foldC
/-- A row of bytes with a mark behind its end. -/
def FzAt (w : World) (q m : Nat) (C : Array Value) : Prop := w.heap[q]? = some (.cells C 5 (m, m + 1)) ∧ C.size = m
theorem FzAt.cell {w : World} {q m : Nat} {C : Array Value} (h : FzAt w q m C) {k : Nat} {v : Value} (hk : C[k]? = some v) : w.cell? ⟨q, k, none⟩ = some v := by
  rw [cell_of_row _ _ _ _ _ _ h.1]; exact hk
theorem FzAt.free {w : World} {q m : Nat} {C : Array Value} (h : FzAt w q m C) {k : Nat} (hk : k < m) : w.frozen? ⟨q, k, none⟩ = false := by
  simp [World.frozen?, h.1]; omega
theorem FzAt.set {w : World} {q m : Nat} {C : Array Value} (h : FzAt w q m C) (k : Nat) (v : Value) : FzAt (w.setCell ⟨q, k, none⟩ v) q m (C.setIfInBounds k v) := by
  refine ⟨?_, by simpa using h.2⟩
  simp only [World.setCell, Array.getElem?_modify, h.1]
  simp
theorem FzAt.new (w : World) (s : ByteArray) : FzAt (Lib.bytesWorld w 5 s) w.heap.size (Lib.bytesCells w 5 s).size (Lib.bytesCells w 5 s) := ⟨Lib.bytesWorld_at_new w _ s, rfl⟩
def mixL (l : List UInt8) (k : Nat) : List UInt8 := foldL (l.take k) ++ l.drop k
theorem mixL_zero (l : List UInt8) : mixL l 0 = l := by simp [mixL, foldL]
theorem mixL_all (l : List UInt8) : mixL l l.length = foldL l := by simp [mixL]
theorem mixL_len (l : List UInt8) (k : Nat) : (mixL l k).length = l.length := by simp [mixL, foldL]; omega
theorem mixL_get {l : List UInt8} {k : Nat} (h : k < l.length) : (mixL l k)[k]? = l[k]? := by
  unfold mixL foldL
  rw [List.getElem?_append_right (by simp; omega)]
  simp [Nat.min_eq_left (Nat.le_of_lt h)]
theorem mixL_succ {l : List UInt8} {k : Nat} (h : k < l.length) : mixL l (k + 1) = (mixL l k).set k (foldC (l.getD k 0)) := by
  unfold mixL foldL
  rw [List.take_succ_eq_append_getElem h, List.map_append, List.set_append_right _ _ (by simp; omega)]
  have e : k - ((l.take k).map foldC).length = 0 := by simp; omega
  rw [e, List.drop_eq_getElem_cons h, List.set_cons_zero, List.append_assoc, List.getD_eq_getElem?_getD, List.getElem?_eq_getElem h]
  rfl
/-- A row's cells read as these bytes. -/
def RdC (C : Array Value) (l : List UInt8) : Prop := ∀ (j : Nat) (b : UInt8), l[j]? = some b → C[j]? = some (.int .u8 (b.toNat : Nat))
theorem RdC.set {C : Array Value} {l : List UInt8} (h : RdC C l) (k : Nat) (b : UInt8) (hk : k < C.size) : RdC (C.setIfInBounds k (.int .u8 (b.toNat : Nat))) (l.set k b) := by
  intro j c hj
  rw [List.getElem?_set] at hj
  rw [Array.getElem?_setIfInBounds]
  by_cases e : k = j
  · subst e
    rw [if_pos rfl] at hj ⊢
    split at hj
    · cases hj; rw [if_pos hk]
    · cases hj
  · rw [if_neg e] at hj ⊢
    exact h j c hj
theorem RdC.new (w : World) (s : ByteArray) : RdC (Lib.bytesCells w 5 s) s.data.toList := by
  intro j b hj
  have hj2 : j < s.data.size := by have := (List.getElem?_eq_some_iff.1 hj).1; simpa using this
  unfold Lib.bytesCells
  rw [Array.getElem?_append_left (by simpa using hj2), Array.getElem?_map]
  rw [Array.getElem?_toList] at hj
  rw [hj]; rfl
theorem RdC.row {w : World} {q m : Nat} {C : Array Value} {l : List UInt8} (h : FzAt w q m C) (hr : RdC C l) : RowAt w (some ⟨q, 0, none⟩) (bcells l) := fun j u hu => by
  refine ⟨_, rfl, ?_⟩
  have e : (⟨q, 0, none⟩ : Addr).add j = ⟨q, j, none⟩ := by unfold Addr.add; split <;> simp_all
  rw [e]
  simp only [bcells, List.getElem?_map] at hu
  cases hb : l[j]? with
  | none => rw [hb] at hu; cases hu
  | some b => rw [hb] at hu; cases hu; exact h.cell (hr j b hb)
set_option maxRecDepth 100000 in
set_option maxHeartbeats 800000 in
theorem fold_calls (w : World) (s : ByteArray) (hs : s.size ≤ 1000000) : Calls Tryd.prog 14 #[.string s] w (StrPost w (foldL s.data.toList)) := by
  have hcv := Tryd.fromStr w s
  have hcf := bytesW_fr w s
  have hfz := FzAt.new w s
  have hrd := RdC.new w s
  have hbc : s.size ≤ (Lib.bytesCells w 5 s).size := by unfold Lib.bytesCells; simp
  obtain ⟨bs, hbs⟩ : ∃ bs, s.data.toList = bs := ⟨_, rfl⟩
  have hlen : bs.length = s.size := by rw [← hbs]; simp
  rw [hbs] at hrd ⊢
  rw [← mixL_zero bs] at hrd
  generalize (Lib.bytesCells w 5 s) = C0 at *
  generalize C0.size = m at *
  generalize (grownCap w s.size 0 5) = cc at *
  generalize (Lib.bytesWorld w 5 s) = w1 at *
  obtain ⟨n, hn⟩ : ∃ n, s.size = n := ⟨_, rfl⟩
  rw [hn] at hcv hs hbc hlen
  obtain ⟨q, hq⟩ : ∃ q, w.heap.size = q := ⟨_, rfl⟩
  rw [hq] at hcv hfz
  have HL := hid hlen
  have HQ := hid hq
  clear hbs hn hlen hq
  go_enter Tryd.func14, Tryd.ntmps14
  go_wp2_with fail
  go_loopw [10] (fun i wr => ∃ (k : Nat) (C : Array Value), k ≤ n ∧ i = .int .i64 k ∧ FzAt wr q m C ∧ RdC C (mixL bs k) ∧ Fr noB w wr) (fun i _ => n - (intOf i).toNat)
  case atStart => exact ⟨0, C0, Nat.zero_le _, rfl, hfz, hrd, hcf⟩
  case round =>
    clear hfz hrd hcf
    obtain ⟨k, C, hk, rfl, hfz, hrd, hf⟩ := hrel
    by_cases hkn : k < n
    · have hlt : k < bs.length := by rw [HL.out]; exact hkn
      have HM := hid (mixL_succ hlt)
      have hgk := mixL_get hlt
      obtain ⟨b, hb⟩ : ∃ b, bs[k]? = some b := ⟨_, List.getElem?_eq_getElem hlt⟩
      have hgd : bs.getD k 0 = b := by rw [List.getD_eq_getElem?_getD, hb]; rfl
      rw [hgd] at HM
      have hcell := hfz.cell (hrd k b (hgk.trans hb))
      have hfree := hfz.free (k := k) (by omega)
      have hst := hfz.set k (.int .u8 ((foldC b).toNat : Nat))
      have hrs := hrd.set k (foldC b) (by rw [hfz.2]; omega)
      rw [← HM.out] at hrs
      have f2 : Fr noB w (wr.setCell ⟨q, k, none⟩ (.int .u8 ((foldC b).toNat : Nat))) := hf.trans (fr_set1 _ q k _) (fun i hi h => by unfold eqB at h; have := HQ.out; omega)
      have hfo : foldC b = if 65 ≤ b.toNat ∧ b.toNat ≤ 90 then UInt8.ofNat (b.toNat + 32) else b := rfl
      have hsame : ¬ (65 ≤ b.toNat ∧ b.toNat ≤ 90) → mixL bs (k + 1) = mixL bs k := fun h => by
        rw [HM.out, hfo, if_neg h]
        have h1 : (mixL bs k)[k]? = some b := hgk.trans hb
        obtain ⟨h2, h3⟩ := List.getElem?_eq_some_iff.1 h1
        rw [← h3]; exact List.set_getElem_self h2
      have hval : (65 ≤ b.toNat ∧ b.toNat ≤ 90) → (foldC b).toNat = b.toNat + 32 := fun h => by
        rw [hfo, if_pos h]
        simp; omega
      have HSA := hid hsame
      have HVA := hid hval
      generalize (foldC b).toNat = d at *
      clear hsame hval hfo hgd hb hgk
      generalize hc : b.toNat = c at *
      have hc256 : c < 256 := by rw [← hc]; exact UInt8.toNat_lt b
      clear hc
      obtain ⟨b1, h1⟩ : ∃ b1, decide ((65 : Int) ≤ c) = b1 := ⟨_, rfl⟩
      obtain ⟨b2, h2⟩ : ∃ b2, decide ((c : Int) ≤ 90) = b2 := ⟨_, rfl⟩
      cases b1 <;> cases b2
      all_goals
        first
        | (have hno : ¬ (65 ≤ c ∧ c ≤ 90) := by simp only [decide_eq_false_iff_not, decide_eq_true_eq] at h1 h2; omega
           have hms := HSA.out hno
           clear hst hrs f2
           have HMS := hid hms
           clear hms hno
           go_wp2_with fail
           go_roundw
           case rel => exact ⟨k + 1, C, by omega, by go_num, hfz, by rw [HMS.out]; exact hrd, hf⟩
           case measure => simp [intOf]; omega)
        | (have hyes : 65 ≤ c ∧ c ≤ 90 := by simp only [decide_eq_true_eq] at h1 h2; omega
           have hd := HVA.out hyes
           have hw1 : IntKind.u8.wrap ((c : Int) + 97) = (c : Int) + 97 := by rw [IntKind.wrap_u8]; omega
           have hw2 : IntKind.u8.wrap ((c : Int) + 97 - 65) = (d : Int) := by rw [IntKind.wrap_u8]; omega
           clear hyes hd hfz hrd
           go_wp2_with fail
           go_roundw
           case rel => exact ⟨k + 1, _, by omega, by go_num, hst, hrs, f2⟩
           case measure => simp [intOf]; omega)
    · obtain rfl : k = n := by omega
      have hall : mixL bs k = foldL bs := by rw [← HL.out]; exact mixL_all bs
      rw [hall] at hrd
      have hts := Tryd.toStr (RdC.row hfz hrd) (n := k) (by unfold foldL; rw [List.length_map]; exact HL.out) cc
      clear hall
      go_wp2_with fail
      go_ret
      exact ⟨rfl, hf⟩
end Go.Proofs.YtahcopmdffengaaDoor
