/- Operations: what is written is read, and what is read is written (no program). -/
import Derived.Test.YtcaihinenfnekaaDoorOpR3
import Derived.Test.YtcaihinenfnekaaDoorBackLaw
namespace Go.Proofs.YtcaihinenfnekaaDoor
open Go.RowKit

/-! ### readers, turned round -/
theorem leB_leV (xs : List UInt8) : leB xs.length (leV xs) = xs := by
  induction xs with
  | nil => rfl
  | cons b xs ih =>
    simp only [List.length_cons, leB, leV]
    have h1 : UInt8.ofNat (b.toNat + 256 * leV xs) = b := by
      apply UInt8.toNat_inj.1
      simp
    have h2 : (b.toNat + 256 * leV xs) / 256 = leV xs := by have := b.toNat_lt; omega
    rw [h1, h2, ih]
theorem rFail_e (r : Rd) {k : Nat} (hk : k ≠ 0) : (rFail r k).e ≠ 0 := by
  unfold rFail
  split
  · exact hk
  · rename_i h; intro h2; exact h ⟨h2, hk⟩
theorem rTake_ok {r r1 : Rd} {n : Nat} {x : List UInt8} (h : rTake r n = (r1, x)) (h0 : r1.e = 0) : r.e = 0 ∧ r.bs = x ++ r1.bs ∧ x.length = n := by
  unfold rTake at h
  split at h
  · cases h; exact absurd h0 (rFail_e r (by decide))
  · cases h; exact ⟨h0, (List.take_append_drop n r.bs).symm, by simp only [List.length_take]; omega⟩
theorem rNum_ok {r r1 : Rd} {n v : Nat} (h : rNum r n = (r1, v)) (h0 : r1.e = 0) : r.e = 0 ∧ r.bs = leB n v ++ r1.bs ∧ v < 256 ^ n := by
  have hl := rNum_lt r n
  unfold rNum at h
  cases hq : rTake r n with
  | mk q x =>
    rw [hq] at h
    cases h
    obtain ⟨h1, h2, h3⟩ := rTake_ok hq h0
    refine ⟨h1, ?_, by rw [← h3]; exact leV_lt x⟩
    rw [← h3, leB_leV]; exact h2
theorem rCount_ok {r r1 : Rd} {most : Int} {v : Nat} (h : rCount r most = (r1, v)) (h0 : r1.e = 0) : r.e = 0 ∧ r.bs = leB 2 v ++ r1.bs ∧ v < 65536 ∧ (v : Int) ≤ max 0 most := by
  unfold rCount at h
  split at h
  · cases h; exact absurd h0 (rFail_e _ (by decide))
  · rename_i hn
    obtain ⟨h1, h2, h3⟩ := rNum_ok h h0
    refine ⟨h1, h2, h3, ?_⟩
    rw [h] at hn; simp only [] at hn; omega
theorem rText_ok {r r1 : Rd} {most : Int} {x : List UInt8} (h : rText r most = (r1, x)) (h0 : r1.e = 0) : r.e = 0 ∧ r.bs = textB (mkS x) ++ r1.bs ∧ x.length < 65536 ∧ (x.length : Int) ≤ max 0 most := by
  unfold rText at h
  cases hq : rCount r most with
  | mk q v =>
    rw [hq] at h
    obtain ⟨h1, h2, h3⟩ := rTake_ok h h0
    obtain ⟨g1, g2, g3, g4⟩ := rCount_ok hq h1
    simp only [] at h2 h3
    refine ⟨g1, ?_, by omega, by rw [h3]; exact g4⟩
    rw [g2, h2]
    unfold textB
    rw [mkS_size, mkS_data, h3, Nat.min_eq_left (by omega), List.take_of_length_le (by omega), List.append_assoc]
theorem rEnd_zero {r : Rd} (h : rEnd r = 0) : r.e = 0 ∧ r.bs = [] := by
  unfold rEnd at h
  split at h
  · cases h
  · rename_i h2
    refine ⟨h, ?_⟩
    rcases hb : r.bs with _ | ⟨b, l⟩
    · rfl
    · exact absurd ⟨h, by rw [hb]; simp⟩ h2
theorem rdSign_ok {o o' : OpV} {r r' : Rd} {c : UInt8} (h : rdSign (o, r) c = (o', r')) (h0 : r'.e = 0) : rdPart o r c = (o', r') ∧ rightV o' c = true := by
  unfold rdSign at h
  cases hq : rdPart o r c with
  | mk p q =>
    rw [hq] at h
    simp only [] at h
    cases hr : rightV p c
    · by_cases he : q.e = 0
      · rw [if_pos ⟨he, hr⟩] at h; cases h; exact absurd h0 (rFail_e _ (by decide))
      · rw [if_neg (fun h => he h.1)] at h; cases h; exact absurd h0 he
    · rw [if_neg (by rw [hr]; simp)] at h; cases h; exact ⟨rfl, hr⟩
/-! ### texts and forms -/
theorem zOf_of {k : Nat} {o : OpV} {z : List UInt8} (hk : o.k = k) (hz : signsL[k]? = some z) : zOf o = z := by
  unfold zOf; rw [hk, List.getD_eq_getElem?_getD, hz]; rfl
theorem textO_eq {o : OpV} (hk : o.k < 17) (ha : o.a.size ≤ 65535) (hb : o.b.size ≤ 65535) : textO o = writeB o (zOf o) := by
  have hz := zOf_get hk
  unfold textO writeB
  rw [textR_eq ha, textR_eq hb]
  rcases parts_signs hz with ⟨h1, h2⟩ | ⟨h1, h2⟩ | ⟨h1, h2⟩ | ⟨h1, h2⟩
  · rw [h1, h2, if_pos (by decide), if_pos rfl, if_neg (by decide)]
    simp [signB]
  · rw [h1, h2, if_pos (by decide), if_neg (by decide), if_neg (by decide)]
    simp [signB]
  · rw [h1, h2, if_neg (by decide), if_neg (by decide), if_neg (by decide)]
    simp
  · rw [h1, h2, if_neg (by decide), if_neg (by decide), if_pos (by decide)]
    simp [signB]
open Classical in
theorem bareB_iff {o : OpV} (hk : o.k < 17) : bareB o = true ↔ badR o = false := by
  have hz := zOf_get hk
  unfold bareB badR
  rw [decide_eq_true_eq, OpV.eq_iff]
  rcases parts_signs hz with ⟨h1, h2⟩ | ⟨h1, h2⟩ | ⟨h1, h2⟩ | ⟨h1, h2⟩
  all_goals
    rw [h1, h2]
    simp [bareFrom, setS, and_assoc]
theorem right_iff {o : OpV} (hk : o.k < 17) : (zOf o).all (rightV o) = true ↔ bad2R o = false := by
  have hz := zOf_get hk
  unfold bad2R
  rcases parts_signs hz with ⟨h1, h2⟩ | ⟨h1, h2⟩ | ⟨h1, h2⟩ | ⟨h1, h2⟩
  all_goals
    rw [h1, h2]
    simp [rightV]
  omega
theorem bare_len {o : OpV} (hk : o.k < 17) (hb : bareB o = true) : o.a.size + o.b.size ≤ 64 ∨ 64 < (textO o).length := by
  have hz := zOf_get hk
  rw [bareB_iff hk] at hb
  unfold badR at hb
  unfold textO
  have e0 : (⟨#[]⟩ : ByteArray).size = 0 := rfl
  rcases parts_signs hz with ⟨h1, h2⟩ | ⟨h1, h2⟩ | ⟨h1, h2⟩ | ⟨h1, h2⟩
  all_goals
    rw [h1] at hb ⊢
    simp at hb ⊢
    simp only [List.length_append, textR_length, leB_length]
  · omega
  · rw [hb.1, e0]; omega
  · rw [hb.1.1, hb.1.2, e0]; omega
  · rw [hb.1, hb.2, e0]; omega
theorem check_eq (o : OpV) : checkR o = checkV o := by
  unfold checkR checkV
  by_cases h17 : 17 ≤ o.k
  · rw [if_pos h17, if_pos h17]
  · rw [if_neg h17, if_neg h17]
    have hk : o.k < 17 := by omega
    have h1 := bareB_iff hk
    have h2 := right_iff hk
    cases hb : bareB o
    · have : badR o = true := by cases h : badR o; rw [h1.2 h] at hb; cases hb; rfl
      rw [if_pos this, if_pos rfl]
    · have hbr := h1.1 hb
      simp only [hbr, Bool.false_eq_true, Bool.true_eq_false, if_false]
      cases hr : (zOf o).all (rightV o)
      · have : bad2R o = true := by cases h : bad2R o; rw [h2.2 h] at hr; cases hr; rfl
        rw [if_pos this, if_pos rfl]
      · have hrr := h2.1 hr
        simp only [hrr, Bool.false_eq_true, Bool.true_eq_false, if_false]
        rcases bare_len hk hb with h | h
        · rw [textO_eq hk (by omega) (by omega), if_neg (by omega : ¬ 64 < o.a.size + o.b.size)]
          by_cases h3 : 64 < (writeB o (zOf o)).length
          · rw [if_pos (Or.inr (Or.inr h3)), if_pos h3]
          · rw [if_neg (by omega), if_neg h3]
        · rw [if_pos (Or.inr (Or.inr h))]
          by_cases h3 : 64 < o.a.size + o.b.size
          · rw [if_pos h3]
          · rw [if_neg h3, if_pos (by rw [← textO_eq hk (by omega) (by omega)]; exact h)]
/-! ### there and back -/
theorem opRead_write {o : OpV} (hw : o.wf) (h : checkV o = 0) : opRead (writeB o (zOf o)) = (o, 0) := by
  obtain ⟨hk, hb, hr, hab, hl⟩ := checkV_ok h
  have hz := zOf_get hk
  obtain ⟨k, a, b, n, q⟩ := o
  obtain ⟨w1, w2, w3⟩ := hw
  simp only [] at *
  rw [bareB_iff hk] at hb
  rw [right_iff hk] at hr
  unfold badR at hb
  unfold bad2R at hr
  have hc : UInt8.toNat (UInt8.ofNat k) = k := by simp; omega
  have hz' : signsL[(UInt8.ofNat k).toNat]? = some (zOf ⟨k, a, b, n, q⟩) := by rw [hc]; exact hz
  have hcons : ∀ l, leB 1 k ++ l = UInt8.ofNat k :: l := fun l => rfl
  have hn := rNum_app 1 n
  have hq := rNum_app 1 q
  have ha := fun ys => rText_app a ys 65535 (by omega) (by omega)
  have hbb := fun ys => rText_app b ys 65535 (by omega) (by omega)
  have m1 : n % 256 ^ 1 = n := by omega
  have m2 : q % 256 ^ 1 = q := by omega
  rw [m1] at hn
  rw [m2] at hq
  have hrd : ∀ l, writeB ⟨k, a, b, n, q⟩ (zOf ⟨k, a, b, n, q⟩) = leB 1 k ++ l → ∀ s : OpV × Rd, (zOf ⟨k, a, b, n, q⟩).foldl rdSign (⟨k, ⟨#[]⟩, ⟨#[]⟩, 0, 0⟩, ⟨l, 0⟩) = (⟨k, a, b, n, q⟩, ⟨[], 0⟩) → opRead (writeB ⟨k, a, b, n, q⟩ (zOf ⟨k, a, b, n, q⟩)) = (⟨k, a, b, n, q⟩, 0) := by
    intro l hl2 _ hf
    rw [hl2, hcons, opRead_cons (by rw [← hcons, ← hl2]; omega) hz', hc, hf]
    rfl
  have am : mkS a.data.toList = a := mkS_of a
  have bm : mkS b.data.toList = b := mkS_of b
  rcases parts_signs hz with ⟨h1, h2⟩ | ⟨h1, h2⟩ | ⟨h1, h2⟩ | ⟨h1, h2⟩
  · rw [h1] at hb hr
    simp at hb
    obtain ⟨rfl, rfl⟩ := hb
    refine hrd (textB a ++ textB b) (by rw [h2]; simp [writeB, signB]) (⟨k, a, b, 0, 0⟩, ⟨[], 0⟩) ?_
    rw [h2]
    have e1 : rdSign (⟨k, ⟨#[]⟩, ⟨#[]⟩, 0, 0⟩, ⟨textB a ++ textB b, 0⟩) 97 = (⟨k, a, ⟨#[]⟩, 0, 0⟩, ⟨textB b, 0⟩) := rdSign_keep (by unfold rdPart; rw [if_pos rfl, ha, am]) (Or.inr rfl)
    have e2 : rdSign (⟨k, a, ⟨#[]⟩, 0, 0⟩, ⟨textB b, 0⟩) 98 = (⟨k, a, b, 0, 0⟩, ⟨[], 0⟩) := rdSign_keep (by have := hbb []; rw [List.append_nil] at this; unfold rdPart; rw [if_neg (by decide), if_pos rfl, this, bm]) (Or.inr rfl)
    rw [List.foldl_cons, e1, List.foldl_cons, e2]; rfl
  · rw [h1] at hb hr
    simp at hb
    obtain ⟨rfl, rfl, rfl⟩ := hb
    refine hrd (textB a) (by rw [h2]; simp [writeB, signB]) (⟨k, a, ⟨#[]⟩, 0, 0⟩, ⟨[], 0⟩) ?_
    rw [h2]
    have e1 : rdSign (⟨k, ⟨#[]⟩, ⟨#[]⟩, 0, 0⟩, ⟨textB a, 0⟩) 97 = (⟨k, a, ⟨#[]⟩, 0, 0⟩, ⟨[], 0⟩) := rdSign_keep (by have := ha []; rw [List.append_nil] at this; unfold rdPart; rw [if_pos rfl, this, am]) (Or.inr rfl)
    rw [List.foldl_cons, e1]; rfl
  · rw [h1] at hb hr
    simp at hb
    obtain ⟨⟨rfl, rfl⟩, rfl, rfl⟩ := hb
    exact hrd [] (by rw [h2]; simp [writeB]) (⟨k, ⟨#[]⟩, ⟨#[]⟩, 0, 0⟩, ⟨[], 0⟩) (by rw [h2]; rfl)
  · rw [h1] at hb hr
    simp at hb hr
    obtain ⟨rfl, rfl⟩ := hb
    refine hrd (leB 1 n ++ leB 1 q) (by rw [h2]; simp [writeB, signB]) (⟨k, ⟨#[]⟩, ⟨#[]⟩, n, q⟩, ⟨[], 0⟩) ?_
    rw [h2]
    have e1 : rdSign (⟨k, ⟨#[]⟩, ⟨#[]⟩, 0, 0⟩, ⟨leB 1 n ++ leB 1 q, 0⟩) 110 = (⟨k, ⟨#[]⟩, ⟨#[]⟩, n, 0⟩, ⟨leB 1 q, 0⟩) := rdSign_keep (by unfold rdPart; rw [if_neg (by decide), if_neg (by decide), if_pos rfl, hn]) (Or.inr (by unfold rightV; rw [if_pos rfl]; exact decide_eq_true (by simp only []; omega)))
    have e2 : rdSign (⟨k, ⟨#[]⟩, ⟨#[]⟩, n, 0⟩, ⟨leB 1 q, 0⟩) 114 = (⟨k, ⟨#[]⟩, ⟨#[]⟩, n, q⟩, ⟨[], 0⟩) := rdSign_keep (by have := hq []; rw [List.append_nil] at this; unfold rdPart; rw [if_neg (by decide), if_neg (by decide), if_neg (by decide), if_pos rfl, this]) (Or.inr (by unfold rightV; rw [if_neg (by decide), if_pos rfl, Bool.and_eq_true]; exact ⟨decide_eq_true (by simp only []; omega), decide_eq_true (by simp only []; omega)⟩))
    rw [List.foldl_cons, e1, List.foldl_cons, e2]; rfl
theorem opRead_ok {bs : List UInt8} {o : OpV} (h : opRead bs = (o, 0)) : o.wf ∧ checkV o = 0 ∧ writeB o (zOf o) = bs ∧ o.a.size + o.b.size ≤ 64 := by
  have h64 : ¬ 64 < bs.length := fun h2 => by rw [opRead_long h2] at h; cases h
  cases bs with
  | nil => rw [opRead_nil] at h; cases h
  | cons c t =>
    have hk : c.toNat < 17 := by
      refine Classical.byContradiction fun h2 => ?_
      rw [opRead_kind h64 (by omega)] at h; cases h
    obtain ⟨z, hz⟩ : ∃ z, signsL[c.toNat]? = some z := ⟨_, List.getElem?_eq_getElem (by simp [signsL]; omega)⟩
    rw [opRead_cons h64 hz] at h
    split at h
    · rename_i h0
      obtain ⟨he, hbs⟩ := rEnd_zero h0
      have hc0 : ∀ l, leB 1 c.toNat ++ l = c :: l := fun l => by simp [leB]
      have hfin : ∀ (o : OpV), o.k = c.toNat → o.n < 256 → o.r < 256 → writeB o z = c :: t → badR o = false → bad2R o = false → o.a.size + o.b.size ≤ 64 → o.wf ∧ checkV o = 0 ∧ writeB o (zOf o) = c :: t ∧ o.a.size + o.b.size ≤ 64 := by
        intro o k0 k1 k2 k3 k4 k5 k6
        have hk' : o.k < 17 := by omega
        have hzo := zOf_of k0 hz
        refine ⟨⟨by omega, k1, k2⟩, ?_, by rw [hzo]; exact k3, k6⟩
        unfold checkV
        rw [if_neg (by omega), if_neg (by rw [(bareB_iff hk').2 k4]; decide), if_neg (by rw [(right_iff hk').2 k5]; decide), if_neg (by omega), hzo, k3, if_neg h64]
      rcases parts_signs hz with ⟨h1, rfl⟩ | ⟨h1, rfl⟩ | ⟨h1, rfl⟩ | ⟨h1, rfl⟩
      · simp only [List.foldl_cons, List.foldl_nil] at h he hbs
        cases h2 : rdSign (⟨c.toNat, ⟨#[]⟩, ⟨#[]⟩, 0, 0⟩, ⟨t, 0⟩) 97 with
        | mk o1 r1 =>
          rw [h2] at h he hbs
          cases h3 : rdSign (o1, r1) 98 with
          | mk o2 r2 =>
            rw [h3] at h he hbs
            cases h
            simp only [] at he hbs
            obtain ⟨g1, _⟩ := rdSign_ok h3 he
            unfold rdPart at g1
            rw [if_neg (by decide), if_pos rfl] at g1
            cases g3 : rText r1 65535 with
            | mk r x =>
              rw [g3] at g1
              cases g1
              obtain ⟨e1, e2, e3, _⟩ := rText_ok g3 he
              obtain ⟨g4, _⟩ := rdSign_ok h2 e1
              unfold rdPart at g4
              rw [if_pos rfl] at g4
              cases g5 : rText ⟨t, 0⟩ 65535 with
              | mk r' x' =>
                rw [g5] at g4
                cases g4
                obtain ⟨_, f2, f3, _⟩ := rText_ok g5 e1
                simp only [] at f2
                rw [e2, hbs, List.append_nil] at f2
                have hlen := congrArg List.length f2
                have l1 : (textB (mkS x')).length = 2 + x'.length := by unfold textB; rw [List.length_append, leB_length, List.length_take, mkS_data]; omega
                have l2 : (textB (mkS x)).length = 2 + x.length := by unfold textB; rw [List.length_append, leB_length, List.length_take, mkS_data]; omega
                rw [List.length_append, l1, l2] at hlen
                simp only [List.length_cons] at h64
                refine hfin _ rfl (show (0 : Nat) < 256 by decide) (show (0 : Nat) < 256 by decide) ?_ (by unfold badR; simp only []; rw [h1]; rfl) (by unfold bad2R; simp only []; rw [h1]; rfl) (by simp only [mkS_size]; omega)
                rw [f2]
                simp [writeB, signB, leB]
      · simp only [List.foldl_cons, List.foldl_nil] at h he hbs
        cases h2 : rdSign (⟨c.toNat, ⟨#[]⟩, ⟨#[]⟩, 0, 0⟩, ⟨t, 0⟩) 97 with
        | mk o1 r1 =>
          rw [h2] at h he hbs
          cases h
          simp only [] at he hbs
          obtain ⟨g4, _⟩ := rdSign_ok h2 he
          unfold rdPart at g4
          rw [if_pos rfl] at g4
          cases g5 : rText ⟨t, 0⟩ 65535 with
          | mk r' x' =>
            rw [g5] at g4
            cases g4
            obtain ⟨_, f2, f3, _⟩ := rText_ok g5 he
            simp only [] at f2
            rw [hbs, List.append_nil] at f2
            have hlen := congrArg List.length f2
            have l1 : (textB (mkS x')).length = 2 + x'.length := by unfold textB; rw [List.length_append, leB_length, List.length_take, mkS_data]; omega
            rw [l1] at hlen
            simp only [List.length_cons] at h64
            refine hfin _ rfl (show (0 : Nat) < 256 by decide) (show (0 : Nat) < 256 by decide) ?_ (by unfold badR; simp only []; rw [h1]; rfl) (by unfold bad2R; simp only []; rw [h1]; rfl) (by simp only [mkS_size, show (⟨#[]⟩ : ByteArray).size = 0 from rfl]; omega)
            rw [f2]
            simp [writeB, signB, leB]
      · simp only [List.foldl_nil] at h he hbs
        cases h
        subst hbs
        exact hfin _ rfl (show (0 : Nat) < 256 by decide) (show (0 : Nat) < 256 by decide) (by simp [writeB, leB]) (by unfold badR; simp only []; rw [h1]; rfl) (by unfold bad2R; simp only []; rw [h1]; rfl) (show (⟨#[]⟩ : ByteArray).size + (⟨#[]⟩ : ByteArray).size ≤ 64 by decide)
      · simp only [List.foldl_cons, List.foldl_nil] at h he hbs
        cases h2 : rdSign (⟨c.toNat, ⟨#[]⟩, ⟨#[]⟩, 0, 0⟩, ⟨t, 0⟩) 110 with
        | mk o1 r1 =>
          rw [h2] at h he hbs
          cases h3 : rdSign (o1, r1) 114 with
          | mk o2 r2 =>
            rw [h3] at h he hbs
            cases h
            simp only [] at he hbs
            obtain ⟨g1, v1⟩ := rdSign_ok h3 he
            unfold rdPart at g1
            rw [if_neg (by decide), if_neg (by decide), if_neg (by decide), if_pos rfl] at g1
            cases g3 : rNum r1 1 with
            | mk r x =>
              rw [g3] at g1
              cases g1
              obtain ⟨e1, e2, e3⟩ := rNum_ok g3 he
              obtain ⟨g4, v2⟩ := rdSign_ok h2 e1
              unfold rdPart at g4
              rw [if_neg (by decide), if_neg (by decide), if_pos rfl] at g4
              cases g5 : rNum ⟨t, 0⟩ 1 with
              | mk r' x' =>
                rw [g5] at g4
                cases g4
                obtain ⟨_, f2, f3⟩ := rNum_ok g5 e1
                simp only [] at f2
                rw [e2, hbs, List.append_nil] at f2
                unfold rightV at v1 v2
                rw [if_neg (by decide), if_pos rfl] at v1
                rw [if_pos rfl] at v2
                simp at v1 v2
                refine hfin _ rfl (by simp only []; omega) (by simp only []; omega) ?_ (by unfold badR; simp only []; rw [h1]; simp) (by unfold bad2R; simp only []; rw [h1]; simp; omega) (show (⟨#[]⟩ : ByteArray).size + (⟨#[]⟩ : ByteArray).size ≤ 64 by decide)
                rw [f2]
                simp [writeB, signB, leB]
    · rename_i h0
      exact absurd (congrArg Prod.snd h) h0
end Go.Proofs.YtcaihinenfnekaaDoor
