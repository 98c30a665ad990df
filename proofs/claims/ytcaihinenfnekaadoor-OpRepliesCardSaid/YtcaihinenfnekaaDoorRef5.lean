/- Contract of interrexref01.GetRow. -/
import Derived.Test.YtcaihinenfnekaaDoorRef4
namespace Go.Proofs.YtcaihinenfnekaaDoor
open Go.RowKit

theorem rText_err {r : Rd} (hi : r.inv) (h : r.e ≠ 0) (long : Int) : rText r long = (r, []) := by
  have hb := hi h
  obtain ⟨bs, ee⟩ := r
  subst hb
  have h1 : rTake ⟨[], ee⟩ 2 = (⟨[], ee⟩, []) := by unfold rTake; rw [if_pos (by simp), rFail_ne 2 h]
  have h2 : rNum ⟨[], ee⟩ 2 = (⟨[], ee⟩, 0) := by unfold rNum; rw [h1]; rfl
  have h3 : rCount ⟨[], ee⟩ long = (⟨[], ee⟩, 0) := by unfold rCount; rw [h2, if_neg (by simp; omega)]
  unfold rText
  rw [h3]
  rfl
theorem rText_inv {r : Rd} (hi : r.inv) (long : Int) : (rText r long).1.inv := by
  unfold rText rCount
  refine rTake_inv _ ?_
  split
  · exact rFail_inv 3 (rNum_inv 2 hi)
  · exact rNum_inv 2 hi
theorem rCount_left (r : Rd) (most : Int) : (rCount r most).1.bs.length ≤ r.bs.length := by
  unfold rCount
  split
  · exact Nat.le_trans (rFail_len _ 3) (rTake_left r 2)
  · exact rTake_left r 2
theorem rText_left (r : Rd) (long : Int) : (rText r long).1.bs.length ≤ r.bs.length := Nat.le_trans (rTake_left _ _) (rCount_left r long)
theorem rTexts_inv {r : Rd} (hi : r.inv) (long : Int) (n : Nat) : (rTexts r long n).1.inv := by
  induction n with
  | zero => exact hi
  | succ n ih => exact rText_inv ih long
theorem rTexts_left (r : Rd) (long : Int) (n : Nat) : (rTexts r long n).1.bs.length ≤ r.bs.length := by
  induction n with
  | zero => exact Nat.le_refl _
  | succ n ih => exact Nat.le_trans (rText_left _ long) ih
theorem rTexts_err {r : Rd} (hi : r.inv) (long : Int) {n : Nat} (h : (rTexts r long n).1.e ≠ 0) : ∀ m, (rTexts r long (n + m)).1 = (rTexts r long n).1 := by
  intro m
  induction m with
  | zero => rfl
  | succ m ih =>
    show (rText (rTexts r long (n + m)).1 long).1 = _
    rw [rText_err (rTexts_inv hi long _) (by rw [ih]; exact h), ih]
theorem rRow_err {r r1 : Rd} {x : Nat} (hi : r1.inv) (most long : Int) (hc : rCount r most = (r1, x)) {k : Nat} (hk : k ≤ x) (h : (rTexts r1 long k).1.e ≠ 0) : rRow r most long = ((rTexts r1 long k).1, []) := by
  obtain ⟨m, rfl⟩ := Nat.exists_eq_add_of_le hk
  unfold rRow
  rw [hc]
  simp only
  rw [rTexts_err hi long h m, if_neg h]
theorem rRow_ok {r r1 : Rd} {x : Nat} (most long : Int) (hc : rCount r most = (r1, x)) (h : (rTexts r1 long x).1.e = 0) : rRow r most long = rTexts r1 long x := by
  unfold rRow
  rw [hc]
  simp only
  rw [if_pos h]

theorem cell_one_row' (w : World) (x : Value) (t : TypeId) {n : Nat} (h : w.heap.size = n) : RowAt (w.alloc (.cells #[x] t)) (some ⟨n, 0, none⟩) [x] := h ▸ cell_one_row w x t
/-- What GetRow leaves. -/
def RowRPost (w : World) (q : Rd × List ByteArray) (e : Ending) (w' : World) : Prop :=
  ∃ A n c, e = .returned (.tuple #[q.1.val, .slice A n c]) ∧ Hid (q.2.length = n) ∧ n ≤ 65535 ∧ RowAt w' A (strs q.2) ∧ (∀ ad, A = some ad → w.heap.size ≤ ad.block) ∧ Fr noB w w'

set_option maxRecDepth 100000 in
set_option maxHeartbeats 3200000 in
theorem rowGetR_calls (w : World) (r : Rd) (most long : Int) (hi : r.inv) (hl : r.bs.length ≤ 1000000000000) (hm1 : -9223372036854775808 ≤ most) (hm2 : most ≤ 9223372036854775807) (hl1 : -9223372036854775808 ≤ long) (hl2 : long ≤ 9223372036854775807) :
    Calls Tryd.prog 102 #[.agg #[.string (mkS r.bs), .int .i64 (r.e : Nat)], .int .i64 most, .int .i64 long] w (RowRPost w (rRow r most long)) := by
  have hc := fun W => getR_calls W r 2 hi hl (by omega)
  have hx : (rNum r 2).2 < 65536 := rNum_lt r 2
  have hp := rNum_pos (n := 2) hi
  have hv := rNum_inv 2 hi
  have hle : (rNum r 2).1.bs.length ≤ 1000000000000 := Nat.le_trans (rTake_left r 2) hl
  have HC : Hid (rCount r most = if max 0 most < ((rNum r 2).2 : Int) then (rFail (rNum r 2).1 3, 0) else ((rNum r 2).1, (rNum r 2).2)) := rfl
  generalize (rNum r 2).1 = q at *
  generalize (rNum r 2).2 = x at *
  by_cases hx1 : max 0 most < (x : Int)
  · obtain ⟨bs, ee⟩ := r
    obtain ⟨qb, qe⟩ := q
    simp only [Rd.val] at *
    have q0 : qe = 0 := hp (by omega)
    have h1 : rFail ⟨qb, qe⟩ 3 = ⟨[], 3⟩ := by unfold rFail; rw [if_pos ⟨q0, by decide⟩]
    rw [if_pos hx1, h1] at HC
    have HF : Hid (rRow ⟨bs, ee⟩ most long = (⟨[], 3⟩, [])) := rRow_err (fun _ => rfl) most long HC.out (Nat.le_refl _) (show (3 : Nat) ≠ 0 by decide)
    clear HC
    have t0 : ((qe : Int) == 0) = true := by simp; exact q0
    have Q0 := hid q0; clear q0 hp h1
    go_enter Tryd.func102, Tryd.ntmps102
    go_wp2_with fail
    refine (hc _).mono ?_
    rintro e w1 ⟨rfl, f1⟩
    clear hc
    obtain ⟨g1, g2⟩ := fr_cells f1 (heap_two _ _ _).2 id
    have hz := f1.heap (heap_two _ _ _).2 id
    have g3 := g1 0 (.string ⟨#[]⟩) rfl
    have g4 := g1 1 (.int .i64 0) rfl
    have z1 := f1.size
    have z2 : w.heap.size + 1 < w1.heap.size := by simp at z1; omega
    have f2 : Fr noB w w1 := (((Fr.refl _ _).alloc _).alloc _).then' f1
    have F1 := hid f1
    clear f1 g1 z1
    have g5 := cell_al g3
    have g6 := cell_al g4
    go_wp2_with fail
    all_goals
      obtain ⟨b0, b1⟩ := cells2 (heap_al (set2 (u := .string ⟨#[]⟩) (v := .int .i64 3) hz) (.cells #[.string (mkS qb), .int .i64 (qe : Nat)] 138))
      exact bodyPost_ret (v := .tuple #[.agg #[.string ⟨#[]⟩, .int .i64 3], .slice none 0 0]) (by simp [results, Tryd.results102, go_sem, b0, b1]) rfl
        ⟨none, 0, 0, by rw [HF.out]; rfl, by rw [HF.out]; rfl, by omega, by rw [HF.out]; exact RowAt.nil _ _, (fun _ e => by cases e), ((f2.setCell (p := ⟨w.heap.size + 1, 0, none⟩) (Or.inr (Nat.le_succ _)) _).setCell (p := ⟨w.heap.size + 1, 1, none⟩) (Or.inr (Nat.le_succ _)) _).alloc _⟩
  · rw [if_neg hx1] at HC
    have HE : ∀ k, k ≤ x → (rTexts q long k).1.e ≠ 0 → Hid (rRow r most long = ((rTexts q long k).1, [])) := fun k hk h => rRow_err hv most long HC.out hk h
    have HO : (rTexts q long x).1.e = 0 → Hid (rRow r most long = rTexts q long x) := fun h => rRow_ok most long HC.out h
    clear HC
    have hm : ((q.e : Int) == 0) = false ∨ (((q.e : Int) == 0) = true ∧ ((0 < most ∧ (x : Int) ≤ most) ∨ (most ≤ 0 ∧ (x : Int) ≤ 0))) := by
      rcases Nat.eq_zero_or_pos q.e with h | h
      · refine Or.inr ⟨by simp [h], ?_⟩; omega
      · exact Or.inl (by simp; omega)
    have hti := rTexts_inv hv long
    have htl := fun k => Nat.le_trans (rTexts_left q long k) hle
    have HP : Hid (0 < x → q.e = 0) := hp
    clear hx1 hp
    generalize hR : rRow r most long = R at *
    have HR := hid hR; clear hR
    obtain ⟨bs, ee⟩ := r
    simp only [Rd.val] at *
    go_enter Tryd.func102, Tryd.ntmps102
    go_wp2_with fail
    refine (hc _).mono ?_
    rintro e w1 ⟨rfl, f1⟩
    clear hc
    obtain ⟨g1, g2⟩ := fr_cells f1 (heap_two _ _ _).2 id
    have hz := f1.heap (heap_two _ _ _).2 id
    have z1 := f1.size
    have z2 : w.heap.size + 1 < w1.heap.size := by simp at z1; omega
    have f2 : Fr noB w w1 := (((Fr.refl _ _).alloc _).alloc _).then' f1
    have F1 := hid f1
    clear f1 g1 z1
    rcases hm with t0 | ⟨t0, ⟨m1, m2⟩ | ⟨m1, m2⟩⟩
    all_goals
      go_wp2_with fail
      go_loopw [10, 30] (fun v i wr => ∃ k : Nat, k ≤ x ∧ i = .int .u64 k ∧ (∃ A c, v = .slice A k c ∧ wr.ownsRow w.heap.size 9 1 v k (strs (rTexts q long k).2)) ∧ (0 < k → (rTexts q long k).1.e = 0) ∧ wr.heap[w1.heap.size]? = some (.cells #[.string (mkS (rTexts q long k).1.bs), .int .i64 ((rTexts q long k).1.e : Nat)] 138 (0, 0)) ∧ wr.heap[w.heap.size + 1]? = some (.cells #[.string ⟨#[]⟩, .int .i64 0] 138 (0, 0)) ∧ Fr noB w wr) (fun _ i _ => x - (intOf i).toNat)
      case atStart => exact ⟨0, Nat.zero_le _, rfl, ⟨none, 0, rfl, World.ownsRow_nil _ _ _ _⟩, fun h => absurd h (Nat.lt_irrefl _), heap_alloc_new _ _, heap_al hz _, f2.alloc _⟩
      case round =>
        obtain ⟨k, hk, rfl, ⟨A, c, rfl, hown⟩, hok, hs, hres, hf⟩ := hrel
        by_cases hkx : k < x
        · try (exfalso; omega)
          all_goals
            have hS : rTexts q long (k + 1) = ((rText (rTexts q long k).1 long).1, (rTexts q long k).2 ++ [mkS (rText (rTexts q long k).1 long).2]) := rfl
            have hct := textGetR_calls wr (rTexts q long k).1 long (hti k) (htl k) hl1 hl2
            have hEk := HE (k + 1) hkx
            have hOk : (rTexts q long (k + 1)).1.e = 0 ∨ (rTexts q long (k + 1)).1.e ≠ 0 := by omega
            have HS : Hid ((rTexts q long (k + 1)) = ((rText (rTexts q long k).1 long).1, (rTexts q long k).2 ++ [mkS (rText (rTexts q long k).1 long).2])) := hS
            rw [hS] at hEk hOk
            clear hS hok
            generalize rTexts q long k = rk at *
            obtain ⟨⟨kb, ke⟩, ks⟩ := rk
            simp only [] at *
            obtain ⟨c0, c1⟩ := cells2 hs
            unfold RRPost at hct
            generalize rText ⟨kb, ke⟩ long = tt at *
            obtain ⟨⟨tb, te⟩, tx⟩ := tt
            simp only [Rd.val] at *
            go_wp2_with fail
            refine hct.mono ?_
            rintro e w2 ⟨rfl, f2⟩
            clear hct
            have hs2 := f2.heap hs id
            have hr2 := f2.heap hres id
            obtain ⟨-, k2⟩ := fr_cells f2 hs id
            obtain ⟨-, l2⟩ := fr_cells f2 hres id
            obtain ⟨d0, d1⟩ := cells2 hs2
            obtain ⟨d2, d3⟩ := cells2 hr2
            have hown2 : w2.ownsRow w.heap.size 9 1 (.slice A k c) k (strs ks) := own_fr hown f2 (fun g _ => id)
            have hne : ∀ g, (Value.slice A k c).ownBlock = some g → g ≠ w1.heap.size := fun g hg => own_ne hown2 hg hs2 (by decide)
            have hne2 : ∀ g, (Value.slice A k c).ownBlock = some g → g ≠ w.heap.size + 1 := fun g hg => own_ne hown2 hg hr2 (by decide)
            have z5 : w1.heap.size < w2.heap.size := by
              rcases Nat.lt_or_ge w1.heap.size w2.heap.size with h | h
              · exact h
              · rw [Array.getElem?_eq_none h] at hs2; exact absurd hs2 (by simp)
            have f4 : Fr noB w w2 := hf.then' f2
            have hbase : ∀ g, (Value.slice A k c).ownBlock = some g → w.heap.size ≤ g := fun g hg => (hown.lt g hg).1
            have F2 := hid f2
            clear f2 hf hown hs hres c0 c1
            have fs := fr_set2 w2 w1.heap.size (.string (mkS tb)) (.int .i64 (te : Nat))
            have s3 := set2 (u := .string (mkS tb)) (v := .int .i64 (te : Nat)) hs2
            have s4 := fs.heap hr2 (by unfold eqB; omega)
            have f5 := ((f4.setCell (p := ⟨w1.heap.size, 0, none⟩) (Or.inr (by show w.heap.size ≤ w1.heap.size; omega)) (.string (mkS tb))).setCell (p := ⟨w1.heap.size, 1, none⟩) (Or.inr (by show w.heap.size ≤ w1.heap.size; omega)) (.int .i64 (te : Nat)))
            have hown3 := own_fr hown2 fs hne
            clear fs
            rcases hOk with e0' | e0'
            · have t1 : ((te : Int) != 0) = false := by simp; exact e0'
              have E0 := hid e0'; clear e0'
              have hown4 : World.ownsRow _ 0 9 1 (.slice A k c) k (strs ks) := own_mono hown3 (fun _ _ => Nat.zero_le _)
              clear hown3 hown2
              go_wp2_with (at_builtin; refine wpList_app Tryd.appS rfl (.tmp 43) (.tmp 45) rfl _ k (strs ks) rfl ((hown4.alloc _).alloc _) _ 1 1 [.string (mkS tx)] rfl rfl (cell_one_row' _ _ _ (by simp)) (fun u hu => by simp at hu; subst hu; rfl) (by simp) (by omega) (by omega) ?_)
              intro A' c' w3 hown5 hg hat
              have fg : Fr (fun g => (Value.slice A k c).ownBlock = some g) _ w3 := Fr.grown (Fr.refl _ _) hg (fun g hg => Or.inl hg)
              have s5 := fg.heap (heap_al (heap_al s3 _) _) (fun h => hne _ h rfl)
              have s6 := fg.heap (heap_al (heap_al s4 _) _) (fun h => hne2 _ h rfl)
              have f6 : Fr noB w w3 := Fr.grown ((f5.alloc _).alloc _) hg (fun g hg => Or.inr (hbase g hg))
              obtain ⟨zz0, zz1⟩ := cells2 s5
              have hown6 : w3.ownsRow w.heap.size 9 1 (.slice A' (k + 1) c') (k + 1) (strs (ks ++ [mkS tx])) := by
                have : strs (ks ++ [mkS tx]) = strs ks ++ [.string (mkS tx)] := by simp [strs]
                rw [this]
                refine own_mono hown5 (fun g hg => ?_)
                rcases hat with e | e
                · exact hbase g (e ▸ hg)
                · rw [hg] at e; simp at e; have := f5.size; simp at this; omega
              clear fg hg hat hown4 hown5 s3 s4
              go_wp2_with fail
              go_roundw
              case rel => exact ⟨k + 1, by omega, by go_num, ⟨A', c', rfl, by rw [HS.out]; exact hown6⟩, fun _ => by rw [HS.out]; exact E0.out, by rw [HS.out]; exact s5, s6, f6⟩
              case measure => simp [intOf]; omega
            · have t1 : ((te : Int) != 0) = true := by simp; exact e0'
              have H1 := hEk e0'
              have E0 := hid e0'; clear e0'
              have s7 := heap_al s4 (.cells #[.string (mkS tb), .int .i64 (te : Nat)] 138)
              obtain ⟨n0, n1⟩ := cells2 s7
              obtain ⟨-, n2⟩ := fr_cells (Fr.refl noB _) s7 id
              go_wp2_with fail
              obtain ⟨b0, b1⟩ := cells2 (set2 (u := .string (mkS tb)) (v := .int .i64 (te : Nat)) s7)
              exact bodyPost_ret (v := .tuple #[.agg #[.string (mkS tb), .int .i64 (te : Nat)], .slice none 0 0]) (by simp [results, Tryd.results102, go_sem, b0, b1]) rfl
                ⟨none, 0, 0, by rw [H1.out]; rfl, by rw [H1.out]; rfl, by omega, by rw [H1.out]; exact RowAt.nil _ _, (fun _ e => by cases e), ((f5.alloc _).setCell (p := ⟨w.heap.size + 1, 0, none⟩) (Or.inr (Nat.le_succ _)) _).setCell (p := ⟨w.heap.size + 1, 1, none⟩) (Or.inr (Nat.le_succ _)) _⟩
        · have : k = x := by omega
          subst this
          have hlen := rTexts_len q long k
          have hinv := hti k
          have hEk := HE k (Nat.le_refl _)
          have hOk : (rTexts q long k).1.e = 0 → k = 0 ∨ 0 < k := by omega
          have hRR : Hid (∃ ss, R = ((rTexts q long k).1, ss) ∧ RowAt ((wr.setCell ⟨w.heap.size + 1, 0, none⟩ (.string (mkS (rTexts q long k).1.bs))).setCell ⟨w.heap.size + 1, 1, none⟩ (.int .i64 ((rTexts q long k).1.e : Nat))) A (strs ss) ∧ ss.length = k) := by
            rcases Nat.eq_zero_or_pos (rTexts q long k).1.e with h | h
            · exact ⟨(rTexts q long k).2, (HO h).out, own_row (own_fr hown (fr_set2 wr (w.heap.size + 1) _ _) (fun g hg => own_ne hown hg hres (by decide))), hlen⟩
            · rcases Nat.eq_zero_or_pos k with h' | h'
              · refine ⟨[], (HE k (Nat.le_refl _) (by omega)).out, RowAt.nil _ _, ?_⟩
                rw [h']; rfl
              · have := hok h'; omega
          have hbase : ∀ ad, A = some ad → w.heap.size ≤ ad.block := fun ad e => (hown.lt _ (by rw [e]; rfl)).1
          clear hEk hOk HO HE hok hlen hinv hown
          generalize rTexts q long k = rk at *
          obtain ⟨⟨kb, ke⟩, ks⟩ := rk
          simp only [] at *
          obtain ⟨c0, c1⟩ := cells2 hs
          obtain ⟨c2, c3⟩ := cells2 hres
          obtain ⟨-, l2⟩ := fr_cells (Fr.refl noB wr) hres id
          go_wp2_with fail
          obtain ⟨b0, b1⟩ := cells2 (set2 (u := .string (mkS kb)) (v := .int .i64 (ke : Nat)) hres)
          obtain ⟨ss, e1, e2, e3⟩ := hRR.out
          refine bodyPost_ret (v := .tuple #[.agg #[.string (mkS kb), .int .i64 (ke : Nat)], .slice A k c]) (by simp [results, Tryd.results102, go_sem, b0, b1]) rfl
            ⟨A, k, c, by rw [e1]; rfl, by rw [e1]; exact e3, by omega, ?_, hbase, (hf.setCell (p := ⟨w.heap.size + 1, 0, none⟩) (Or.inr (Nat.le_succ _)) _).setCell (p := ⟨w.heap.size + 1, 1, none⟩) (Or.inr (Nat.le_succ _)) _⟩
          rw [e1]
          exact e2
end Go.Proofs.YtcaihinenfnekaaDoor
