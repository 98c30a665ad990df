/- interrexlaw06.UserUps: the walk. -/
import Derived.Test.YtahcopmdffengaaDoorUs8
namespace Go.Proofs.YtahcopmdffengaaDoor
open Go.RowKit
theorem check_up {u : UsV} (h : checkU 1 u = 0) : checkU 2 (upU u) = 0 ∧ checkU 2 u = 0 := by
  unfold checkU at h
  rw [if_pos (Or.inl rfl)] at h
  by_cases h1 : nameS u.name = true
  · rw [if_pos h1] at h
    by_cases h2 : hashS u.hash = true
    · rw [if_pos h2, if_neg (by decide)] at h
      by_cases h4 : u.mail.size = 0 ∧ u.dis = false ∧ u.gs = []
      · have e1 : mailOk u.mail = true := by unfold mailOk; rw [decide_eq_true h4.1]; rfl
        constructor
        · unfold checkU upU
          simp only
          simp [h1, h2]
          decide +kernel
        · unfold checkU
          rw [if_pos (Or.inr rfl), if_pos h1, if_pos h2, if_pos rfl, if_pos e1, h4.2.2]
          rfl
      · rw [if_neg h4] at h; cases h
    · rw [if_neg h2] at h; cases h
  · rw [if_neg h1] at h; cases h
theorem memU_take {g s : ByteArray} {l : List ByteArray} {k : Nat} (h : l[k]? = some s) : memU g (l.take (k + 1)) = (memU g (l.take k) || (s.toList == g.toList)) := by
  rw [take_snoc' h, str_eq]
  unfold memU
  rw [List.any_append]
  simp only [List.any_cons, List.any_nil, Bool.or_false]
  congr 1
  rw [Bool.eq_iff_iff, decide_eq_true_iff, decide_eq_true_iff]
  exact eq_comm
set_option maxRecDepth 100000 in
set_option maxHeartbeats 3200000 in
theorem ups_walk (w : World) (u : UsV) (A : Option Addr) (n c : Nat) (g : ByteArray) (hx : RowAt w A (strs u.gs)) (hn : u.gs.length = n) (hnc : n ≤ c) (hc : c ≤ 9223372036854775807) :
    Calls Tryd.prog 7 #[.agg (u.C (.slice A n c)), .string g] w (BoolPost w true) := by
  have hb0 : BlkAt (w.alloc (.cells (u.C (.slice A n c)) 35)) w.heap.size 35 (u.C (.slice A n c)) := BlkAt.new _ _ _
  have f0 : Fr noB w (w.alloc (.cells (u.C (.slice A n c)) 35)) := (Fr.refl noB w).alloc _
  have hl := fun W => lives06_calls W
  have HN := hid hn
  have hfew := fun W f => fewU_calls W u A n c (hx.fr0 f) HN hnc hc
  have hup := fun W => upU_calls W u (.slice A n c)
  have hin0 := fun W => inU_calls W (upU u) none 0 0 g (fun j u h => by simp [strs, upU] at h) (hid rfl) (by omega)
  have hin := fun W f h => inU_calls W u A n c g (hx.fr0 f) HN h
  have hc1 := fun W f => check_calls06 W 1 u A n c (hx.fr0 f) HN
  have hc2 := fun W f => check_calls06 W 2 u A n c (hx.fr0 f) HN
  have hc3 := fun W => check_calls06 W 2 (upU u) none 0 0 (fun j u h => by simp [strs, upU] at h) (hid rfl)
  have HU := hid (check_up (u := u))
  obtain ⟨k1, hk1⟩ : ∃ k, checkU 1 u = k := ⟨_, rfl⟩
  obtain ⟨k2, hk2⟩ : ∃ k, checkU 2 u = k := ⟨_, rfl⟩
  obtain ⟨k3, hk3⟩ : ∃ k, checkU 2 (upU u) = k := ⟨_, rfl⟩
  rw [hk1] at hc1 HU
  rw [hk2] at hc2 HU
  rw [hk3] at hc3 HU
  have hm0 : memU g (upU u).gs = false := rfl
  rw [hm0] at hin0
  clear hk1 hk2 hk3 hm0 hn
  have hqb := hb0.lt
  unfold UsV.C upU at *
  simp only at hin0 hc3 hup
  go_enter Tryd.func7, Tryd.ntmps7
  go_wp2_with fail
  generalize hwa : (w.alloc _) = wa at *
  obtain ⟨qb, hq⟩ : ∃ qb, w.heap.size = qb := ⟨_, rfl⟩
  have HQ := hid hq
  rw [hq] at hb0 hqb ⊢
  clear hwa hq
  refine (hl wa).mono ?_
  rintro e w1 ⟨rfl, f1⟩
  have hb1 := hb0.fr f1 id
  replace f1 := f0.then' f1
  obtain ⟨x0, x1, x2, x3, x4, xf⟩ := BlkAt.c5 hb1
  go_wp2_with fail
  refine (hfew w1 f1).mono ?_
  rintro e w2 ⟨b, rfl, hb20, f2⟩
  clear x0 x1 x2 x3 x4 xf
  have hb2 := hb1.fr f2 id
  replace f2 := f1.then' f2
  clear f1 hb1 hb0 f0
  obtain ⟨x0, x1, x2, x3, x4, xf⟩ := BlkAt.c5 hb2
  cases b
  · go_wp2_with fail
    refine (hl w2).mono ?_
    rintro e w3 ⟨rfl, f3⟩
    go_wp2_with fail
    go_ret
    exact ⟨rfl, f2.then' f3⟩
  · have hn20 : n ≤ 20 := hb20 rfl
    clear hb20
    obtain ⟨vg, hvg⟩ : ∃ v, decide ((100 : Int) < g.size) = v := ⟨_, rfl⟩
    cases vg
    · go_wp2_with fail
      refine (hup w2).mono ?_
      rintro e w3 ⟨rfl, f3⟩
      clear x0 x1 x2 x3 x4 xf
      have hb3 := hb2.fr f3 id
      replace f3 := f2.then' f3
      clear f2 hb2
      have hq3 := hb3.lt
      obtain ⟨rb, hrb⟩ : ∃ rb, w3.heap.size = rb := ⟨_, rfl⟩
      rw [hrb] at hq3
      have hb5 : BlkAt (w3.alloc (.cells #[.string u.name, .string u.hash, .string ⟨#[]⟩, .bool false, .slice none 0 0] 35)) rb 35 #[.string u.name, .string u.hash, .string ⟨#[]⟩, .bool false, .slice none 0 0] := hrb ▸ BlkAt.new _ _ _
      have hb6 := hb3.al (.cells #[.string u.name, .string u.hash, .string ⟨#[]⟩, .bool false, .slice none 0 0] 35)
      have hfo := f3.alloc (.cells #[.string u.name, .string u.hash, .string ⟨#[]⟩, .bool false, .slice none 0 0] 35)
      go_upto_region 4 with fail
      generalize (w3.alloc _) = w4 at *
      obtain ⟨y0, y1, y2, y3, y4, yf⟩ := BlkAt.c5 hb5
      obtain ⟨x0, x1, x2, x3, x4, xf⟩ := BlkAt.c5 hb6
      go_wp2_with fail
      refine (hin0 w4).mono ?_
      rintro e w5 ⟨rfl, f5⟩
      clear x0 x1 x2 x3 x4 xf y0 y1 y2 y3 y4 yf
      replace hb5 := hb5.fr f5 id
      replace hb6 := hb6.fr f5 id
      replace hfo := hfo.then' f5
      obtain ⟨y0, y1, y2, y3, y4, yf⟩ := BlkAt.c5 hb5
      obtain ⟨x0, x1, x2, x3, x4, xf⟩ := BlkAt.c5 hb6
      have hx5 := hx.fr0 hfo
      go_wp2_with fail
      go_loop [6, 59] (fun v i => ∃ k : Nat, k ≤ n ∧ i = .int .i64 k ∧ v = .bool (memU g (u.gs.take k))) (fun _ i => n - (intOf i).toNat)
      case atStart => exact ⟨0, Nat.zero_le _, rfl, rfl⟩
      case round =>
        obtain ⟨k, hk, rfl, rfl⟩ := hrel
        by_cases hkn : k < n
        · obtain ⟨s, hs⟩ : ∃ s, u.gs[k]? = some s := ⟨_, List.getElem?_eq_getElem (by rw [HN.out]; exact hkn)⟩
          obtain ⟨a, rfl⟩ := strs_pos hx5 hs
          have ca : w5.cell? (a.add k) = some (.string s) := hx5.cell (strs_get hs)
          have HM := hid (memU_take (g := g) hs)
          clear hs
          generalize memU g (u.gs.take k) = v1 at *
          obtain ⟨v2, hv2⟩ : ∃ v, (s.toList == g.toList) = v := ⟨_, rfl⟩
          rw [hv2] at HM
          cases v1 <;> cases v2
          all_goals
            go_wp2_with fail
            go_round
            case rel => exact ⟨k + 1, by omega, by go_num, by rw [HM.out]; rfl⟩
            case measure => simp [intOf]; omega
        · obtain rfl : k = n := by omega
          have e1 : u.gs.take k = u.gs := List.take_of_length_le (by rw [HN.out]; exact Nat.le_refl _)
          rw [e1]
          clear e1
          go_wp2_with fail
          refine (hin w5 hfo (by omega)).mono ?_
          rintro e w6 ⟨rfl, f6⟩
          clear x0 x1 x2 x3 x4 xf y0 y1 y2 y3 y4 yf
          replace hb5 := hb5.fr f6 id
          replace hb6 := hb6.fr f6 id
          replace hfo := hfo.then' f6
          obtain ⟨x0, x1, x2, x3, x4, xf⟩ := BlkAt.c5 hb6
          go_wp2_with fail
          refine (hc1 w6 hfo).mono ?_
          rintro e w7 ⟨rfl, f7⟩
          clear x0 x1 x2 x3 x4 xf
          replace hb5 := hb5.fr f7 id
          replace hb6 := hb6.fr f7 id
          replace hfo := hfo.then' f7
          obtain ⟨v1, h1⟩ : ∃ v, ((k1 : Int) != 0) = v := ⟨_, rfl⟩
          cases v1
          · obtain ⟨rfl, rfl⟩ := HU.out (by have := bne_eq_false_iff_eq.mp h1; omega)
            obtain ⟨y0, y1, y2, y3, y4, yf⟩ := BlkAt.c5 hb5
            go_wp2_with fail
            refine (hc3 w7).mono ?_
            rintro e w8 ⟨rfl, f8⟩
            clear y0 y1 y2 y3 y4 yf
            replace hb6 := hb6.fr f8 id
            replace hfo := hfo.then' f8
            obtain ⟨x0, x1, x2, x3, x4, xf⟩ := BlkAt.c5 hb6
            go_wp2_with fail
            refine (hc2 w8 hfo).mono ?_
            rintro e w9 ⟨rfl, f9⟩
            go_wp2_with fail
            go_ret
            exact ⟨rfl, hfo.then' f9⟩
          · go_wp2_with fail
            go_ret
            exact ⟨rfl, hfo⟩
    · go_wp2_with fail
      refine (hl w2).mono ?_
      rintro e w3 ⟨rfl, f3⟩
      go_wp2_with fail
      go_ret
      exact ⟨rfl, f2.then' f3⟩
end Go.Proofs.YtahcopmdffengaaDoor
