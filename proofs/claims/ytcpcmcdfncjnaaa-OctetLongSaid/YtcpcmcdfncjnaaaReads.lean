/- interrexlaw01.OctetReads: the walk. -/
import Derived.Test.YtcpcmcdfncjnaaaGet2
import Derived.Test.YtcpcmcdfncjnaaaWrites
namespace Go.Proofs.Ytcpcmcdfncjnaaa
open Go.RowKit

theorem rCount_inv {r : Rd} (hi : r.inv) (most : Int) : (rCount r most).1.inv := by
  unfold rCount
  split
  · exact rFail_inv 3 (rNum_inv 2 hi)
  · exact rNum_inv 2 hi
theorem rTruth_inv {r : Rd} (hi : r.inv) : (rTruth r).1.inv := by
  unfold rTruth
  simp only
  split
  · exact rFail_inv 4 (rNum_inv 1 hi)
  · exact rNum_inv 1 hi
theorem rTruth_left (r : Rd) : (rTruth r).1.bs.length ≤ r.bs.length := by
  unfold rTruth
  simp only
  split
  · exact Nat.le_trans (rFail_len _ 4) (rTake_left r 1)
  · exact rTake_left r 1
theorem Item.rd_inv {r : Rd} (i : Item) (hi : r.inv) : (i.rd r).inv := by
  unfold Item.rd
  split
  · exact rNum_inv 1 hi
  · exact rNum_inv 2 hi
  · exact rNum_inv 4 hi
  · exact rNum_inv 8 hi
  · exact rTruth_inv hi
  · exact rText_inv hi _
  · exact rTexts_inv (rCount_inv hi _) _ _
  · exact rTake_inv _ hi
  · exact rFail_inv _ hi
theorem Item.rd_left (r : Rd) (i : Item) : (i.rd r).bs.length ≤ r.bs.length := by
  unfold Item.rd
  split
  · exact rTake_left r 1
  · exact rTake_left r 2
  · exact rTake_left r 4
  · exact rTake_left r 8
  · exact rTruth_left r
  · exact rText_left r _
  · exact Nat.le_trans (rTexts_left _ _ _) (rCount_left r _)
  · exact rTake_left r _
  · exact rFail_len r _
def rdAll (r : Rd) (l : List Item) : Rd := l.foldl Item.rd r
theorem rdAll_inv {r : Rd} (hi : r.inv) (l : List Item) : (rdAll r l).inv := by
  induction l generalizing r with
  | nil => exact hi
  | cons i l ih => exact ih (i.rd_inv hi)
theorem rdAll_left (r : Rd) (l : List Item) : (rdAll r l).bs.length ≤ r.bs.length := by
  induction l generalizing r with
  | nil => exact Nat.le_refl _
  | cons i l ih => exact Nat.le_trans (ih (i.rd r)) (i.rd_left r)
theorem rdAll_snoc {r : Rd} {l : List Item} {k : Nat} {i : Item} (h : l[k]? = some i) : rdAll r (l.take (k + 1)) = i.rd (rdAll r (l.take k)) := by
  unfold rdAll; rw [take_snoc' h, List.foldl_append]; rfl
theorem RdAt.cut {w : World} {S : Nat → Prop} {p : Nat} {r : Rd} (h : RdAt w S p r) : RdAt w (cutB S w) p r := by
  obtain ⟨A, n, c, T, h⟩ := h
  refine ⟨A, n, c, T, h.len, h.heap, h.row, h.cap, h.max, h.nil, ⟨h.inS, (Array.getElem?_eq_some_iff.1 h.heap).1⟩, fun h0 a e => ⟨⟨(h.rowS h0 a e).1, ?_⟩, (h.rowS h0 a e).2⟩, h.err⟩
  have := h.row
  rw [e] at this
  exact this.lt (by rw [bcells_length, h.len.out]; exact h0)
/-- A row of bytes in a block of its own, whatever they are. -/
def Cur (w : World) (A : Option Addr) (m : Nat) : Prop := 0 < m → ∃ g cur, A = some ⟨g, 0, none⟩ ∧ w.heap[g]? = some (.cells cur 5 (0, 0)) ∧ ∀ j, j < m → ∃ y, cur[j]? = some (.int .u8 y)
def ownS (A : Option Addr) : Nat → Prop := fun k => ∃ a, A = some a ∧ k = a.block

set_option maxRecDepth 100000 in
set_option maxHeartbeats 6400000 in
theorem reads_walk (w : World) (B : Option Addr) (m cbp : Nat) (bs : List UInt8) (hb : RowAt w B (bcells bs)) (HM : Hid (bs.length = m)) (hB : B = none → m = 0 ∧ cbp = 0) (hmx : m ≤ maxLen)
    (A : Option Addr) (n c : Nat) (l : List Item) (h : ItemsAt w A l) (HN : Hid (l.length = n)) (hn : n ≤ maxLen) (hok : ∀ i ∈ l, ItemOK i) :
    Calls Try.prog 7 #[.slice B m cbp, .slice A n c] w (BoolPost w true) := by
  have hlv := @lives1_calls
  unfold maxLen at hmx hn
  by_cases hbig : 30 < n ∨ (n ≤ 30 ∧ 500 < m)
  · rcases hbig with h30 | ⟨h30, h500⟩
    all_goals
      go_enter Try.func7, Try.ntmps7
      go_wp2_with (go_at_call 14; refine (hlv _).mono ?_; rintro e w1 ⟨rfl, f1⟩)
      go_ret
      exact ⟨rfl, (show Fr noB w _ by assumption).then' f1⟩
  · obtain ⟨h30, h500⟩ : n ≤ 30 ∧ m ≤ 500 := by omega
    clear hbig
    have hown0 : ∀ W : World, (W.alloc (.cells #[] 5)).ownsRow 0 5 1 (.slice (some ⟨W.heap.size, 0, none⟩) 0 0) 0 [] := fun W => ⟨rfl, .inr ⟨W.heap.size, 0, #[], rfl, Nat.zero_le _, heap_alloc_new W _, Nat.le_refl _, Nat.zero_le _, rfl, rfl⟩⟩
    go_enter Try.func7, Try.ntmps7
    go_wp2_with (first | (go_at_call 14; refine (hlv _).mono ?_; rintro e w1 ⟨rfl, f1⟩) | (at_builtin; refine wpList_app Try.app8 rfl (.tmp 26) (.tmp 27) rfl _ 0 [] rfl (hown0 _) B m cbp (bcells bs) rfl (by rw [bcells_length, HM.out, Nat.mul_one]) ((hb.fr0 f1).fr0 ((Fr.refl _ _).alloc _)) (fun u hu => by simp [bcells] at hu; obtain ⟨b, _, rfl⟩ := hu; rfl) hB (by omega) (by omega) ?_))
    intro A' c' w3 hown hg hat
    try simp only [Nat.zero_add, List.nil_append] at hown
    try simp only [Nat.zero_add]
    have f3 : Fr noB w w3 := Fr.grown (f1.alloc _) hg (fun k e => Or.inr (by simp [Value.ownBlock] at e; have := f1.size; omega))
    have hbase : ∀ g, (Value.slice A' m c').ownBlock = some g → w.heap.size ≤ g := fun g e => by
      have := f1.size
      rcases hat with q | q
      · rw [e] at q; simp [Value.ownBlock] at q; omega
      · rw [e] at q; simp at q; omega
    have hnil : A' = none → m = 0 ∧ c' = 0 := fun e => by
      subst e
      rcases hown.2 with ⟨e, e2⟩ | ⟨g, cp, cur, e, _⟩
      · cases e; exact ⟨rfl, rfl⟩
      · cases e
    have hlt3 : ∀ a, A' = some a → a.block < w3.heap.size := fun a e => own_lt hown (by rw [e]; rfl)
    have hcur3 : Cur w3 A' m := fun hm0 => by
      rcases hown.2 with ⟨_, e2⟩ | ⟨g, cp, cur, e, _, e3, e4, _, e5, e6⟩
      · omega
      · cases e
        refine ⟨g, cur, rfl, e3, fun j hj => ?_⟩
        have hj2 : j < bs.length := by rw [HM.out]; exact hj
        have e7 : cur.toList[j]? = (bcells bs)[j]? := by rw [← e6, List.getElem?_take, if_pos (by omega)]
        rw [Array.getElem?_toList] at e7
        refine ⟨(bs[j].toNat : Nat), ?_⟩
        rw [e7]
        simp [bcells, hj2]
    have hof := of_calls w3 A' m c' bs (own_row hown) HM.out hnil (by omega)
    have hbase2 : ∀ a, A' = some a → w.heap.size ≤ a.block := fun a e => hbase _ (by rw [e]; rfl)
    clear hg hat hown hown0 hbase hnil
    go_wp2_with fail
    refine hof.mono ?_
    clear hof
    rintro e w4 ⟨p, rfl, hp1, hp2, hrd, f4⟩
    have hcur4 : Cur w4 A' m := fun hm0 => by
      obtain ⟨g, cur, e1, e2, e3⟩ := hcur3 hm0
      exact ⟨g, cur, e1, f4.heap e2 id, e3⟩
    have f04 : Fr noB w w4 := f3.then' f4
    clear hcur3
    go_wp2_with fail
    go_loopw [33] (fun i wr => ∃ k : Nat, k ≤ m ∧ i = .int .i64 k ∧ Cur wr A' m ∧ Fr (ownS A') w4 wr) (fun i _ => m - (intOf i).toNat)
    case atStart => exact ⟨0, Nat.zero_le _, rfl, hcur4, Fr.refl _ _⟩
    case round =>
      obtain ⟨k, hk, rfl, hcu, hf⟩ := hrel
      by_cases hkm : k < m
      · obtain ⟨g, cur, e1, e2, e3⟩ := hcu (by omega)
        obtain ⟨y, hy⟩ := e3 k hkm
        have c0 : wr.cell? ⟨g, k, none⟩ = some (.int .u8 y) := by simp [World.cell?, e2, hy]
        have z0 : ∀ j, wr.frozen? ⟨g, j, none⟩ = false := fun j => by simp [World.frozen?, e2]
        have hst : ∀ v : Int, Cur (wr.setCell ⟨g, k, none⟩ (.int .u8 v)) (some ⟨g, 0, none⟩) m := fun v _ => by
          refine ⟨g, cur.setIfInBounds k (.int .u8 v), rfl, by simp [World.setCell, Array.getElem?_modify, e2], fun j hj => ?_⟩
          obtain ⟨yj, hyj⟩ := e3 j hj
          by_cases hjk : k = j
          · subst hjk
            have hb2 := (Array.getElem?_eq_some_iff.1 hyj).1
            exact ⟨v, by simp [Array.getElem?_setIfInBounds, hb2]⟩
          · exact ⟨yj, by rw [Array.getElem?_setIfInBounds_ne hjk]; exact hyj⟩
        have hfs : ∀ v : Value, Fr (ownS (some ⟨g, 0, none⟩)) wr (wr.setCell ⟨g, k, none⟩ v) := fun v => (Fr.refl _ _).setCell (Or.inl ⟨⟨g, 0, none⟩, rfl, rfl⟩) v
        subst e1
        have HST := hid hst; clear hst
        clear e2 e3 hy hcu
        go_wp2_with fail
        go_roundw
        case rel => exact ⟨k + 1, by omega, by go_num, HST.out _, hf.then' (hfs _)⟩
        case measure => simp [intOf]; omega
      · have : k = m := by omega
        subst this
        have hrd5 : RdAt wr (upB w3.heap.size) p ⟨bs, 0⟩ := hrd.fr hf (fun q _ h1 ⟨a, h2, h3⟩ => by have := hlt3 a h2; unfold upB at h1; omega)
        have f5 : Fr noB w wr := f04.trans hf (fun q h1 ⟨a, h2, h3⟩ => by have := hbase2 a h2; omega)
        have z5 := f5.size
        have hz3 := f3.size
        have hrow5 := hb.fr0 f5
        have hcv := Try.toStr hrow5 HM.out cbp
        clear hcu hf hrd f04 hcur4 hlt3 f3 f4
        go_wp2_with fail
        have hS0 : ∃ S, S = cutB (upB w3.heap.size) wr := ⟨_, rfl⟩
        obtain ⟨S, hS⟩ := hS0
        have hrd6 : RdAt (wr.alloc (.cells #[.string (mkS bs), .int .i64 0] 59)) S p ⟨bs, 0⟩ := by rw [hS]; exact hrd5.cut.fr ((Fr.refl noB _).alloc _) (fun _ _ _ => id)
        have hSq : ∀ k, S k → k < wr.heap.size := fun k hk => by rw [hS] at hk; exact hk.2
        have hSw : ∀ k, S k → w.heap.size ≤ k := fun k hk => by rw [hS] at hk; have := hk.1; unfold upB at this; have := hz3; omega
        have hq8 := heap_alloc_new wr (.cells #[.string (mkS bs), .int .i64 0] 59)
        have f6 : Fr (upB w.heap.size) w (wr.alloc (.cells #[.string (mkS bs), .int .i64 0] 59)) := (f5.up0 _).alloc _
        have zq : wr.heap.size < (wr.alloc (.cells #[.string (mkS bs), .int .i64 0] 59)).heap.size := by simp
        have hbl : bs.length ≤ 1000000000000 := by rw [HM.out]; omega
        generalize wr.alloc (.cells #[.string (mkS bs), .int .i64 0] 59) = wx at *
        generalize wr.heap.size = q8 at *
        clear hS hrd5 hcv hrow5 f5 hkm hk hp1 hp2 HM
        go_loopw [48] (fun i W => ∃ k : Nat, k ≤ n ∧ i = .int .i64 k ∧ RdAt W S p (rdAll ⟨bs, 0⟩ (l.take k)) ∧ W.heap[q8]? = some (.cells #[.string (mkS (rdAll ⟨bs, 0⟩ (l.take k)).bs), .int .i64 ((rdAll ⟨bs, 0⟩ (l.take k)).e : Nat)] 59 (0, 0)) ∧ q8 < W.heap.size ∧ Fr (upB w.heap.size) w W) (fun i _ => n - (intOf i).toNat)
        case atStart => exact ⟨0, Nat.zero_le _, rfl, hrd6, hq8, zq, f6⟩
        case round =>
          obtain ⟨k, hk, rfl, hrk, hqk, hzk, hf⟩ := hrel
          by_cases hkn : k < n
          · obtain ⟨it, hit⟩ : ∃ it, l[k]? = some it := ⟨_, List.getElem?_eq_getElem (by rw [HN.out]; exact hkn)⟩
            obtain ⟨ad, rfl⟩ := h.row.some_flat (by simp [Item.cells]) hit
            obtain ⟨c0, c1, c2, c3, c4, c5, c6, c7⟩ := ((h.row.seg 8 Item.cells_length hit).fr hf (by
              have := (h.row.seg 8 Item.cells_length hit) 0 _ rfl
              have := World.block_lt_of_cell? w _ this
              rw [add_block] at this
              unfold upB; omega)).c8
            have hmem := List.mem_of_getElem? hit
            have q2 := (hok it hmem).wf
            have hinv : (rdAll ⟨bs, 0⟩ (l.take k)).inv := rdAll_inv (fun h => absurd rfl h) _
            have hlen : (rdAll ⟨bs, 0⟩ (l.take k)).bs.length ≤ 1000000000000 := Nat.le_trans (rdAll_left _ _) hbl
            have HS := hid (rdAll_snoc (r := ⟨bs, 0⟩) hit)
            generalize rdAll ⟨bs, 0⟩ (l.take k) = rk at *
            have hget := fun W h hS => get_calls W S p rk it h hinv hlen hS q2
            unfold GetPost at hget
            generalize it.rd rk = r2 at *
            obtain ⟨kb, ke⟩ := rk
            obtain ⟨cb, ce⟩ := r2
            simp only [Rd.val] at *
            obtain ⟨d0, d1⟩ := cells2 hqk
            have d2 := cell_al d0
            have d3 := cell_al d1
            clear hit hmem hinv hlen q2
            have Q := hid hget; clear hget
            go_wp2_with fail
            refine (Q.out _ (hrk.fr ((Fr.refl noB _).alloc _) (fun _ _ _ => id)) (fun q hq => by have := hSq q hq; simp; omega)).mono ?_
            rintro e w5 ⟨rfl, h5, f7⟩
            have hq5 := f7.heap (heap_al hqk _) (fun h => by have := hSq _ h; omega)
            have f8 : Fr (upB w.heap.size) w w5 := (hf.alloc _).then' (f7.mono fun q _ h => hSw q h)
            have z5 := f7.size
            have z6 : q8 < w5.heap.size := by simp at z5; omega
            clear Q f7 hrk hqk d0 d1 d2 d3 z5 hf
            have fs := fr_set2 w5 q8 (.string (mkS cb)) (.int .i64 (ce : Nat))
            have hbz := set2 (u := .string (mkS cb)) (v := .int .i64 (ce : Nat)) hq5
            have hrz := h5.fr fs (fun q _ hs h => by unfold eqB at h; have := hSq q hs; omega)
            have FZ : Hid (Fr (upB w.heap.size) w ((w5.setCell ⟨q8, 0, none⟩ (.string (mkS cb))).setCell ⟨q8, 1, none⟩ (.int .i64 (ce : Nat)))) := f8.then' (fs.mono fun q _ h => by unfold eqB at h; unfold upB; omega)
            have hz6 : q8 < ((w5.setCell ⟨q8, 0, none⟩ (.string (mkS cb))).setCell ⟨q8, 1, none⟩ (.int .i64 (ce : Nat))).heap.size := by have := fs.size; omega
            obtain ⟨d0, d1⟩ := cells2 hq5
            obtain ⟨x0, x1⟩ := cells2 hbz
            have z0 : ∀ j, w5.frozen? ⟨q8, j, none⟩ = false := fun j => by simp [World.frozen?, hq5]
            clear fs
            by_cases e0 : ce = 0
            · have t0 : ((ce : Int) == 0) = true := by simp; exact e0
              have E0 := hid e0; clear e0
              go_wp2_with fail
              · have hE : (!(mkS cb).toList.isEmpty) = true := by assumption
                have hend : Hid (rEnd ⟨cb, ce⟩ = 3) := by
                  rw [mkS_toList] at hE
                  unfold Hid rEnd
                  rw [if_pos ⟨E0.out, by cases cb <;> simp at hE ⊢⟩]
                clear hE
                generalize (w5.setCell ⟨q8, 0, none⟩ (.string (mkS cb))).setCell ⟨q8, 1, none⟩ (.int .i64 (ce : Nat)) = wz at *
                refine wp_region_calm (R := Fr noB) (C := fun _ W => Fr noB wz W ∧ RdAt W S p ⟨cb, ce⟩ ∧ W.heap[q8]? = some (.cells #[.string (mkS cb), .int .i64 (ce : Nat)] 59 (0, 0))) [false, false, false, false, false, false, false, false, false, false, false, false, false, false, false, false, false, false, false, false, false, false, false]
                  [eqv (.bool true), eqv (.bool false), eqv (.bool false), eqv (.pointer (some ⟨p, 0, none⟩)), eqv (.int .i64 (cb.length : Nat)), eqv (.pointer (some ⟨q8, 0, none⟩)), eqv (.string (mkS cb)), eqv (.int .i64 (cb.length : Nat)), eqv (.bool false), eqv (.bool false), eqv (.bool false), eqv (.pointer (some ⟨p, 0, none⟩)), eqv (.int .i64 (ce : Nat)), eqv (.pointer (some ⟨q8, 1, none⟩)), eqv (.int .i64 (ce : Nat)), eqv (.bool false), eqv (.bool false), eqv (.bool false), eqv (.pointer (some ⟨p, 0, none⟩)), eqv (.int .i64 (rEnd ⟨cb, ce⟩ : Nat)), eqv (.int .i64 3), eqv (.bool false), eqv (.bool false)]
                  (by kernel_rfl) (by kernel_rfl) (fun _ _ _ h1 h2 => h1.then' h2) ((Fr.refl _ _).drew) ⟨(Fr.refl _ _).drew, hrz.fr ((Fr.refl noB _).drew) (fun _ _ _ => id), hbz⟩ (by kernel_rfl) ?_ ?_
                · refine ⟨?_, ?_, ?_, ?_, ?_, ?_, ?_, ?_, ?_, ?_, ?_, ?_, ?_, ?_, ?_, ?_, ?_, ?_, ?_, ?_, ?_, ?_, ?_, trivial⟩
                  · rw [if_neg (by decide)]; intro kq
                    exact calm_mv 11 rfl rfl (Or.inl rfl) (Fr.refl _) (by decide) fun v w hd => hd
                  · rw [if_neg (by decide)]; intro kq
                    intro a W K hC hd hK
                    have d68 : a.tmps[68]?.getD undef = .bool true := hd 68 (by decide)
                    refine wpOp_plain rfl rfl ?_
                    go_wp2_with fail
                    exact hK _ _ (Fr.refl _ _) hC rfl
                  · rw [if_neg (by decide)]; intro kq
                    exact calm_mv 69 rfl rfl (Or.inl rfl) (Fr.refl _) (by decide) fun v w hd => hd
                  · rw [if_neg (by decide)]; intro kq
                    intro a W K hC hd hK
                    have d6 : a.tmps[6]?.getD undef = .pointer (some ⟨p, 0, none⟩) := hd 6 (by decide)
                    have d70 : a.tmps[70]?.getD undef = .bool false := hd 70 (by decide)
                    refine wpOp_want rfl (wanted_of (want := false) (b := false) rfl rfl (by rw [eval_get]; exact d70)) ?_
                    go_wp2_with fail
                    exact hK _ _ (Fr.refl _ _) hC rfl
                  · rw [if_neg (by decide)]; intro kq
                    intro a W K hC hd hK
                    have d71 : a.tmps[71]?.getD undef = .pointer (some ⟨p, 0, none⟩) := hd 71 (by decide)
                    have d70 : a.tmps[70]?.getD undef = .bool false := hd 70 (by decide)
                    refine wpOp_want rfl (wanted_of (want := false) (b := false) rfl rfl (by rw [eval_get]; exact d70)) ?_
                    go_wp2_with fail
                    refine (leftRd_calls W S p ⟨cb, ce⟩ hC.2.1).mono ?_
                    rintro e w' ⟨rfl, rfl⟩
                    exact hK _ _ (Fr.refl _ _) hC rfl
                  · rw [if_neg (by decide)]; intro kq
                    intro a W K hC hd hK
                    have d8 : a.tmps[8]?.getD undef = .pointer (some ⟨q8, 0, none⟩) := hd 8 (by decide)
                    have d70 : a.tmps[70]?.getD undef = .bool false := hd 70 (by decide)
                    refine wpOp_want rfl (wanted_of (want := false) (b := false) rfl rfl (by rw [eval_get]; exact d70)) ?_
                    go_wp2_with fail
                    exact hK _ _ (Fr.refl _ _) hC rfl
                  · rw [if_neg (by decide)]; intro kq
                    intro a W K hC hd hK
                    have d73 : a.tmps[73]?.getD undef = .pointer (some ⟨q8, 0, none⟩) := hd 73 (by decide)
                    have d70 : a.tmps[70]?.getD undef = .bool false := hd 70 (by decide)
                    obtain ⟨b0, b1⟩ := cells2 hC.2.2
                    refine wpOp_want rfl (wanted_of (want := false) (b := false) rfl rfl (by rw [eval_get]; exact d70)) ?_
                    go_wp2_with fail
                    exact hK _ _ (Fr.refl _ _) hC rfl
                  · rw [if_neg (by decide)]; intro kq
                    intro a W K hC hd hK
                    have d74 : a.tmps[74]?.getD undef = .string (mkS cb) := hd 74 (by decide)
                    have d70 : a.tmps[70]?.getD undef = .bool false := hd 70 (by decide)
                    refine wpOp_want rfl (wanted_of (want := false) (b := false) rfl rfl (by rw [eval_get]; exact d70)) ?_
                    have hsz := mkS_size cb
                    go_wp2_with fail
                    exact hK _ _ (Fr.refl _ _) hC (by show _ = _; simp [hsz])
                  · rw [if_neg (by decide)]; intro kq
                    intro a W K hC hd hK
                    have d72 : a.tmps[72]?.getD undef = .int .i64 (cb.length : Nat) := hd 72 (by decide)
                    have d75 : a.tmps[75]?.getD undef = .int .i64 (cb.length : Nat) := hd 75 (by decide)
                    have d70 : a.tmps[70]?.getD undef = .bool false := hd 70 (by decide)
                    refine wpOp_want rfl (wanted_of (want := false) (b := false) rfl rfl (by rw [eval_get]; exact d70)) ?_
                    go_wp2_with fail
                    exact hK _ _ (Fr.refl _ _) hC (by show _ = _; simp)
                  · rw [if_neg (by decide)]; intro kq
                    intro a W K hC hd hK
                    have d70 : a.tmps[70]?.getD undef = .bool false := hd 70 (by decide)
                    have d76 : a.tmps[76]?.getD undef = .bool false := hd 76 (by decide)
                    refine wpOp_plain rfl rfl ?_
                    go_wp2_with fail
                    exact hK _ _ (Fr.refl _ _) hC rfl
                  · rw [if_neg (by decide)]; intro kq
                    exact calm_mv 77 rfl rfl (Or.inl rfl) (Fr.refl _) (by decide) fun v w hd => hd
                  · rw [if_neg (by decide)]; intro kq
                    intro a W K hC hd hK
                    have d6 : a.tmps[6]?.getD undef = .pointer (some ⟨p, 0, none⟩) := hd 6 (by decide)
                    have d78 : a.tmps[78]?.getD undef = .bool false := hd 78 (by decide)
                    refine wpOp_want rfl (wanted_of (want := false) (b := false) rfl rfl (by rw [eval_get]; exact d78)) ?_
                    go_wp2_with fail
                    exact hK _ _ (Fr.refl _ _) hC rfl
                  · rw [if_neg (by decide)]; intro kq
                    intro a W K hC hd hK
                    have d79 : a.tmps[79]?.getD undef = .pointer (some ⟨p, 0, none⟩) := hd 79 (by decide)
                    have d78 : a.tmps[78]?.getD undef = .bool false := hd 78 (by decide)
                    refine wpOp_want rfl (wanted_of (want := false) (b := false) rfl rfl (by rw [eval_get]; exact d78)) ?_
                    go_wp2_with fail
                    refine (errRd_calls W S p ⟨cb, ce⟩ hC.2.1).mono ?_
                    rintro e w' ⟨rfl, rfl⟩
                    exact hK _ _ (Fr.refl _ _) hC rfl
                  · rw [if_neg (by decide)]; intro kq
                    intro a W K hC hd hK
                    have d8 : a.tmps[8]?.getD undef = .pointer (some ⟨q8, 0, none⟩) := hd 8 (by decide)
                    have d78 : a.tmps[78]?.getD undef = .bool false := hd 78 (by decide)
                    refine wpOp_want rfl (wanted_of (want := false) (b := false) rfl rfl (by rw [eval_get]; exact d78)) ?_
                    go_wp2_with fail
                    exact hK _ _ (Fr.refl _ _) hC rfl
                  · rw [if_neg (by decide)]; intro kq
                    intro a W K hC hd hK
                    have d81 : a.tmps[81]?.getD undef = .pointer (some ⟨q8, 1, none⟩) := hd 81 (by decide)
                    have d78 : a.tmps[78]?.getD undef = .bool false := hd 78 (by decide)
                    obtain ⟨b0, b1⟩ := cells2 hC.2.2
                    refine wpOp_want rfl (wanted_of (want := false) (b := false) rfl rfl (by rw [eval_get]; exact d78)) ?_
                    go_wp2_with fail
                    exact hK _ _ (Fr.refl _ _) hC rfl
                  · rw [if_neg (by decide)]; intro kq
                    intro a W K hC hd hK
                    have d80 : a.tmps[80]?.getD undef = .int .i64 (ce : Nat) := hd 80 (by decide)
                    have d82 : a.tmps[82]?.getD undef = .int .i64 (ce : Nat) := hd 82 (by decide)
                    have d78 : a.tmps[78]?.getD undef = .bool false := hd 78 (by decide)
                    refine wpOp_want rfl (wanted_of (want := false) (b := false) rfl rfl (by rw [eval_get]; exact d78)) ?_
                    go_wp2_with fail
                    exact hK _ _ (Fr.refl _ _) hC (by show _ = _; simp)
                  · rw [if_neg (by decide)]; intro kq
                    intro a W K hC hd hK
                    have d78 : a.tmps[78]?.getD undef = .bool false := hd 78 (by decide)
                    have d83 : a.tmps[83]?.getD undef = .bool false := hd 83 (by decide)
                    refine wpOp_plain rfl rfl ?_
                    go_wp2_with fail
                    exact hK _ _ (Fr.refl _ _) hC rfl
                  · rw [if_neg (by decide)]; intro kq
                    exact calm_mv 84 rfl rfl (Or.inl rfl) (Fr.refl _) (by decide) fun v w hd => hd
                  · rw [if_neg (by decide)]; intro kq
                    intro a W K hC hd hK
                    have d6 : a.tmps[6]?.getD undef = .pointer (some ⟨p, 0, none⟩) := hd 6 (by decide)
                    have d85 : a.tmps[85]?.getD undef = .bool false := hd 85 (by decide)
                    refine wpOp_want rfl (wanted_of (want := false) (b := false) rfl rfl (by rw [eval_get]; exact d85)) ?_
                    go_wp2_with fail
                    exact hK _ _ (Fr.refl _ _) hC rfl
                  · rw [if_neg (by decide)]; intro kq
                    intro a W K hC hd hK
                    have d86 : a.tmps[86]?.getD undef = .pointer (some ⟨p, 0, none⟩) := hd 86 (by decide)
                    have d85 : a.tmps[85]?.getD undef = .bool false := hd 85 (by decide)
                    refine wpOp_want rfl (wanted_of (want := false) (b := false) rfl rfl (by rw [eval_get]; exact d85)) ?_
                    go_wp2_with fail
                    refine (endRd_calls W S p ⟨cb, ce⟩ hC.2.1).mono ?_
                    rintro e w' ⟨rfl, rfl⟩
                    exact hK _ _ (Fr.refl _ _) hC rfl
                  · rw [if_neg (by decide)]; intro kq
                    intro a W K hC hd hK
                    have d12 : a.tmps[12]?.getD undef = .int .i64 3 := hd 12 (by decide)
                    have d85 : a.tmps[85]?.getD undef = .bool false := hd 85 (by decide)
                    refine wpOp_want rfl (wanted_of (want := false) (b := false) rfl rfl (by rw [eval_get]; exact d85)) ?_
                    go_wp2_with fail
                    exact hK _ _ (Fr.refl _ _) hC rfl
                  · rw [if_neg (by decide)]; intro kq
                    intro a W K hC hd hK
                    have d87 : a.tmps[87]?.getD undef = .int .i64 (rEnd ⟨cb, ce⟩ : Nat) := hd 87 (by decide)
                    have d88 : a.tmps[88]?.getD undef = .int .i64 3 := hd 88 (by decide)
                    have d85 : a.tmps[85]?.getD undef = .bool false := hd 85 (by decide)
                    refine wpOp_want rfl (wanted_of (want := false) (b := false) rfl rfl (by rw [eval_get]; exact d85)) ?_
                    have hend := hend.out
                    go_wp2_with fail
                    exact hK _ _ (Fr.refl _ _) hC (by show _ = _; simp [hend])
                  · rw [if_neg (by decide)]; intro kq
                    intro a W K hC hd hK
                    have d85 : a.tmps[85]?.getD undef = .bool false := hd 85 (by decide)
                    have d89 : a.tmps[89]?.getD undef = .bool false := hd 89 (by decide)
                    refine wpOp_plain rfl rfl ?_
                    go_wp2_with fail
                    exact hK _ _ (Fr.refl _ _) hC rfl
                · intro vs w9 fw9 cw9 hV
                  have v90 : vs 22 = .bool false := hV 22 _ _ rfl rfl (by decide)
                  clear hV
                  simp only [putL, Act.put, List.setIfInBounds_toArray, List.set_cons_zero, List.set_cons_succ, v90]
                  go_wp2_with fail
                  go_roundw
                  case rel => exact ⟨k + 1, by omega, by go_num, by rw [HS.out]; exact cw9.2.1, by rw [HS.out]; exact cw9.2.2, by have := fw9.size; omega, FZ.out.then' (fw9.mono fun _ _ h => h.elim)⟩
                  case measure => simp [intOf]; omega
              · have hE : (!(mkS cb).toList.isEmpty) = false := by assumption
                have hend : Hid (rEnd ⟨cb, ce⟩ = ce) := by
                  rw [mkS_toList] at hE
                  unfold Hid rEnd
                  rw [if_neg (fun h => by cases cb <;> simp at hE h)]
                clear hE
                generalize (w5.setCell ⟨q8, 0, none⟩ (.string (mkS cb))).setCell ⟨q8, 1, none⟩ (.int .i64 (ce : Nat)) = wz at *
                refine wp_region_calm (R := Fr noB) (C := fun _ W => Fr noB wz W ∧ RdAt W S p ⟨cb, ce⟩ ∧ W.heap[q8]? = some (.cells #[.string (mkS cb), .int .i64 (ce : Nat)] 59 (0, 0))) [false, false, false, false, false, false, false, false, false, false, false, false, false, false, false, false, false, false, false, false, false, false, false]
                  [eqv (.bool true), eqv (.bool false), eqv (.bool false), eqv (.pointer (some ⟨p, 0, none⟩)), eqv (.int .i64 (cb.length : Nat)), eqv (.pointer (some ⟨q8, 0, none⟩)), eqv (.string (mkS cb)), eqv (.int .i64 (cb.length : Nat)), eqv (.bool false), eqv (.bool false), eqv (.bool false), eqv (.pointer (some ⟨p, 0, none⟩)), eqv (.int .i64 (ce : Nat)), eqv (.pointer (some ⟨q8, 1, none⟩)), eqv (.int .i64 (ce : Nat)), eqv (.bool false), eqv (.bool false), eqv (.bool false), eqv (.pointer (some ⟨p, 0, none⟩)), eqv (.int .i64 (rEnd ⟨cb, ce⟩ : Nat)), eqv (.int .i64 (ce : Nat)), eqv (.bool false), eqv (.bool false)]
                  (by kernel_rfl) (by kernel_rfl) (fun _ _ _ h1 h2 => h1.then' h2) ((Fr.refl _ _).drew) ⟨(Fr.refl _ _).drew, hrz.fr ((Fr.refl noB _).drew) (fun _ _ _ => id), hbz⟩ (by kernel_rfl) ?_ ?_
                · refine ⟨?_, ?_, ?_, ?_, ?_, ?_, ?_, ?_, ?_, ?_, ?_, ?_, ?_, ?_, ?_, ?_, ?_, ?_, ?_, ?_, ?_, ?_, ?_, trivial⟩
                  · rw [if_neg (by decide)]; intro kq
                    exact calm_mv 11 rfl rfl (Or.inl rfl) (Fr.refl _) (by decide) fun v w hd => hd
                  · rw [if_neg (by decide)]; intro kq
                    intro a W K hC hd hK
                    have d68 : a.tmps[68]?.getD undef = .bool true := hd 68 (by decide)
                    refine wpOp_plain rfl rfl ?_
                    go_wp2_with fail
                    exact hK _ _ (Fr.refl _ _) hC rfl
                  · rw [if_neg (by decide)]; intro kq
                    exact calm_mv 69 rfl rfl (Or.inl rfl) (Fr.refl _) (by decide) fun v w hd => hd
                  · rw [if_neg (by decide)]; intro kq
                    intro a W K hC hd hK
                    have d6 : a.tmps[6]?.getD undef = .pointer (some ⟨p, 0, none⟩) := hd 6 (by decide)
                    have d70 : a.tmps[70]?.getD undef = .bool false := hd 70 (by decide)
                    refine wpOp_want rfl (wanted_of (want := false) (b := false) rfl rfl (by rw [eval_get]; exact d70)) ?_
                    go_wp2_with fail
                    exact hK _ _ (Fr.refl _ _) hC rfl
                  · rw [if_neg (by decide)]; intro kq
                    intro a W K hC hd hK
                    have d71 : a.tmps[71]?.getD undef = .pointer (some ⟨p, 0, none⟩) := hd 71 (by decide)
                    have d70 : a.tmps[70]?.getD undef = .bool false := hd 70 (by decide)
                    refine wpOp_want rfl (wanted_of (want := false) (b := false) rfl rfl (by rw [eval_get]; exact d70)) ?_
                    go_wp2_with fail
                    refine (leftRd_calls W S p ⟨cb, ce⟩ hC.2.1).mono ?_
                    rintro e w' ⟨rfl, rfl⟩
                    exact hK _ _ (Fr.refl _ _) hC rfl
                  · rw [if_neg (by decide)]; intro kq
                    intro a W K hC hd hK
                    have d8 : a.tmps[8]?.getD undef = .pointer (some ⟨q8, 0, none⟩) := hd 8 (by decide)
                    have d70 : a.tmps[70]?.getD undef = .bool false := hd 70 (by decide)
                    refine wpOp_want rfl (wanted_of (want := false) (b := false) rfl rfl (by rw [eval_get]; exact d70)) ?_
                    go_wp2_with fail
                    exact hK _ _ (Fr.refl _ _) hC rfl
                  · rw [if_neg (by decide)]; intro kq
                    intro a W K hC hd hK
                    have d73 : a.tmps[73]?.getD undef = .pointer (some ⟨q8, 0, none⟩) := hd 73 (by decide)
                    have d70 : a.tmps[70]?.getD undef = .bool false := hd 70 (by decide)
                    obtain ⟨b0, b1⟩ := cells2 hC.2.2
                    refine wpOp_want rfl (wanted_of (want := false) (b := false) rfl rfl (by rw [eval_get]; exact d70)) ?_
                    go_wp2_with fail
                    exact hK _ _ (Fr.refl _ _) hC rfl
                  · rw [if_neg (by decide)]; intro kq
                    intro a W K hC hd hK
                    have d74 : a.tmps[74]?.getD undef = .string (mkS cb) := hd 74 (by decide)
                    have d70 : a.tmps[70]?.getD undef = .bool false := hd 70 (by decide)
                    refine wpOp_want rfl (wanted_of (want := false) (b := false) rfl rfl (by rw [eval_get]; exact d70)) ?_
                    have hsz := mkS_size cb
                    go_wp2_with fail
                    exact hK _ _ (Fr.refl _ _) hC (by show _ = _; simp [hsz])
                  · rw [if_neg (by decide)]; intro kq
                    intro a W K hC hd hK
                    have d72 : a.tmps[72]?.getD undef = .int .i64 (cb.length : Nat) := hd 72 (by decide)
                    have d75 : a.tmps[75]?.getD undef = .int .i64 (cb.length : Nat) := hd 75 (by decide)
                    have d70 : a.tmps[70]?.getD undef = .bool false := hd 70 (by decide)
                    refine wpOp_want rfl (wanted_of (want := false) (b := false) rfl rfl (by rw [eval_get]; exact d70)) ?_
                    go_wp2_with fail
                    exact hK _ _ (Fr.refl _ _) hC (by show _ = _; simp)
                  · rw [if_neg (by decide)]; intro kq
                    intro a W K hC hd hK
                    have d70 : a.tmps[70]?.getD undef = .bool false := hd 70 (by decide)
                    have d76 : a.tmps[76]?.getD undef = .bool false := hd 76 (by decide)
                    refine wpOp_plain rfl rfl ?_
                    go_wp2_with fail
                    exact hK _ _ (Fr.refl _ _) hC rfl
                  · rw [if_neg (by decide)]; intro kq
                    exact calm_mv 77 rfl rfl (Or.inl rfl) (Fr.refl _) (by decide) fun v w hd => hd
                  · rw [if_neg (by decide)]; intro kq
                    intro a W K hC hd hK
                    have d6 : a.tmps[6]?.getD undef = .pointer (some ⟨p, 0, none⟩) := hd 6 (by decide)
                    have d78 : a.tmps[78]?.getD undef = .bool false := hd 78 (by decide)
                    refine wpOp_want rfl (wanted_of (want := false) (b := false) rfl rfl (by rw [eval_get]; exact d78)) ?_
                    go_wp2_with fail
                    exact hK _ _ (Fr.refl _ _) hC rfl
                  · rw [if_neg (by decide)]; intro kq
                    intro a W K hC hd hK
                    have d79 : a.tmps[79]?.getD undef = .pointer (some ⟨p, 0, none⟩) := hd 79 (by decide)
                    have d78 : a.tmps[78]?.getD undef = .bool false := hd 78 (by decide)
                    refine wpOp_want rfl (wanted_of (want := false) (b := false) rfl rfl (by rw [eval_get]; exact d78)) ?_
                    go_wp2_with fail
                    refine (errRd_calls W S p ⟨cb, ce⟩ hC.2.1).mono ?_
                    rintro e w' ⟨rfl, rfl⟩
                    exact hK _ _ (Fr.refl _ _) hC rfl
                  · rw [if_neg (by decide)]; intro kq
                    intro a W K hC hd hK
                    have d8 : a.tmps[8]?.getD undef = .pointer (some ⟨q8, 0, none⟩) := hd 8 (by decide)
                    have d78 : a.tmps[78]?.getD undef = .bool false := hd 78 (by decide)
                    refine wpOp_want rfl (wanted_of (want := false) (b := false) rfl rfl (by rw [eval_get]; exact d78)) ?_
                    go_wp2_with fail
                    exact hK _ _ (Fr.refl _ _) hC rfl
                  · rw [if_neg (by decide)]; intro kq
                    intro a W K hC hd hK
                    have d81 : a.tmps[81]?.getD undef = .pointer (some ⟨q8, 1, none⟩) := hd 81 (by decide)
                    have d78 : a.tmps[78]?.getD undef = .bool false := hd 78 (by decide)
                    obtain ⟨b0, b1⟩ := cells2 hC.2.2
                    refine wpOp_want rfl (wanted_of (want := false) (b := false) rfl rfl (by rw [eval_get]; exact d78)) ?_
                    go_wp2_with fail
                    exact hK _ _ (Fr.refl _ _) hC rfl
                  · rw [if_neg (by decide)]; intro kq
                    intro a W K hC hd hK
                    have d80 : a.tmps[80]?.getD undef = .int .i64 (ce : Nat) := hd 80 (by decide)
                    have d82 : a.tmps[82]?.getD undef = .int .i64 (ce : Nat) := hd 82 (by decide)
                    have d78 : a.tmps[78]?.getD undef = .bool false := hd 78 (by decide)
                    refine wpOp_want rfl (wanted_of (want := false) (b := false) rfl rfl (by rw [eval_get]; exact d78)) ?_
                    go_wp2_with fail
                    exact hK _ _ (Fr.refl _ _) hC (by show _ = _; simp)
                  · rw [if_neg (by decide)]; intro kq
                    intro a W K hC hd hK
                    have d78 : a.tmps[78]?.getD undef = .bool false := hd 78 (by decide)
                    have d83 : a.tmps[83]?.getD undef = .bool false := hd 83 (by decide)
                    refine wpOp_plain rfl rfl ?_
                    go_wp2_with fail
                    exact hK _ _ (Fr.refl _ _) hC rfl
                  · rw [if_neg (by decide)]; intro kq
                    exact calm_mv 84 rfl rfl (Or.inl rfl) (Fr.refl _) (by decide) fun v w hd => hd
                  · rw [if_neg (by decide)]; intro kq
                    intro a W K hC hd hK
                    have d6 : a.tmps[6]?.getD undef = .pointer (some ⟨p, 0, none⟩) := hd 6 (by decide)
                    have d85 : a.tmps[85]?.getD undef = .bool false := hd 85 (by decide)
                    refine wpOp_want rfl (wanted_of (want := false) (b := false) rfl rfl (by rw [eval_get]; exact d85)) ?_
                    go_wp2_with fail
                    exact hK _ _ (Fr.refl _ _) hC rfl
                  · rw [if_neg (by decide)]; intro kq
                    intro a W K hC hd hK
                    have d86 : a.tmps[86]?.getD undef = .pointer (some ⟨p, 0, none⟩) := hd 86 (by decide)
                    have d85 : a.tmps[85]?.getD undef = .bool false := hd 85 (by decide)
                    refine wpOp_want rfl (wanted_of (want := false) (b := false) rfl rfl (by rw [eval_get]; exact d85)) ?_
                    go_wp2_with fail
                    refine (endRd_calls W S p ⟨cb, ce⟩ hC.2.1).mono ?_
                    rintro e w' ⟨rfl, rfl⟩
                    exact hK _ _ (Fr.refl _ _) hC rfl
                  · rw [if_neg (by decide)]; intro kq
                    intro a W K hC hd hK
                    have d12 : a.tmps[12]?.getD undef = .int .i64 (ce : Nat) := hd 12 (by decide)
                    have d85 : a.tmps[85]?.getD undef = .bool false := hd 85 (by decide)
                    refine wpOp_want rfl (wanted_of (want := false) (b := false) rfl rfl (by rw [eval_get]; exact d85)) ?_
                    go_wp2_with fail
                    exact hK _ _ (Fr.refl _ _) hC rfl
                  · rw [if_neg (by decide)]; intro kq
                    intro a W K hC hd hK
                    have d87 : a.tmps[87]?.getD undef = .int .i64 (rEnd ⟨cb, ce⟩ : Nat) := hd 87 (by decide)
                    have d88 : a.tmps[88]?.getD undef = .int .i64 (ce : Nat) := hd 88 (by decide)
                    have d85 : a.tmps[85]?.getD undef = .bool false := hd 85 (by decide)
                    refine wpOp_want rfl (wanted_of (want := false) (b := false) rfl rfl (by rw [eval_get]; exact d85)) ?_
                    have hend := hend.out
                    go_wp2_with fail
                    exact hK _ _ (Fr.refl _ _) hC (by show _ = _; simp [hend])
                  · rw [if_neg (by decide)]; intro kq
                    intro a W K hC hd hK
                    have d85 : a.tmps[85]?.getD undef = .bool false := hd 85 (by decide)
                    have d89 : a.tmps[89]?.getD undef = .bool false := hd 89 (by decide)
                    refine wpOp_plain rfl rfl ?_
                    go_wp2_with fail
                    exact hK _ _ (Fr.refl _ _) hC rfl
                · intro vs w9 fw9 cw9 hV
                  have v90 : vs 22 = .bool false := hV 22 _ _ rfl rfl (by decide)
                  clear hV
                  simp only [putL, Act.put, List.setIfInBounds_toArray, List.set_cons_zero, List.set_cons_succ, v90]
                  go_wp2_with fail
                  go_roundw
                  case rel => exact ⟨k + 1, by omega, by go_num, by rw [HS.out]; exact cw9.2.1, by rw [HS.out]; exact cw9.2.2, by have := fw9.size; omega, FZ.out.then' (fw9.mono fun _ _ h => h.elim)⟩
                  case measure => simp [intOf]; omega
            · have t0 : ((ce : Int) == 0) = false := by simp; exact e0
              have E0 := hid e0; clear e0
              go_wp2_with fail
              generalize (w5.setCell ⟨q8, 0, none⟩ (.string (mkS cb))).setCell ⟨q8, 1, none⟩ (.int .i64 (ce : Nat)) = wz at *
              refine wp_region_calm (R := Fr noB) (C := fun _ W => Fr noB wz W ∧ RdAt W S p ⟨cb, ce⟩ ∧ W.heap[q8]? = some (.cells #[.string (mkS cb), .int .i64 (ce : Nat)] 59 (0, 0))) [false, false, false, false, false, false, false, false, false, false, false, false, false, false, false, false, false, false, false, false, false, false, false]
                [eqv (.bool true), eqv (.bool false), eqv (.bool false), eqv (.pointer (some ⟨p, 0, none⟩)), eqv (.int .i64 (cb.length : Nat)), eqv (.pointer (some ⟨q8, 0, none⟩)), eqv (.string (mkS cb)), eqv (.int .i64 (cb.length : Nat)), eqv (.bool false), eqv (.bool false), eqv (.bool false), eqv (.pointer (some ⟨p, 0, none⟩)), eqv (.int .i64 (ce : Nat)), eqv (.pointer (some ⟨q8, 1, none⟩)), eqv (.int .i64 (ce : Nat)), eqv (.bool false), eqv (.bool false), eqv (.bool false), eqv (.pointer (some ⟨p, 0, none⟩)), eqv (.int .i64 (rEnd ⟨cb, ce⟩ : Nat)), eqv (.int .i64 (ce : Nat)), eqv (.bool false), eqv (.bool false)]
                (by kernel_rfl) (by kernel_rfl) (fun _ _ _ h1 h2 => h1.then' h2) ((Fr.refl _ _).drew) ⟨(Fr.refl _ _).drew, hrz.fr ((Fr.refl noB _).drew) (fun _ _ _ => id), hbz⟩ (by kernel_rfl) ?_ ?_
              · refine ⟨?_, ?_, ?_, ?_, ?_, ?_, ?_, ?_, ?_, ?_, ?_, ?_, ?_, ?_, ?_, ?_, ?_, ?_, ?_, ?_, ?_, ?_, ?_, trivial⟩
                · rw [if_neg (by decide)]; intro kq
                  exact calm_mv 11 rfl rfl (Or.inl rfl) (Fr.refl _) (by decide) fun v w hd => hd
                · rw [if_neg (by decide)]; intro kq
                  intro a W K hC hd hK
                  have d68 : a.tmps[68]?.getD undef = .bool true := hd 68 (by decide)
                  refine wpOp_plain rfl rfl ?_
                  go_wp2_with fail
                  exact hK _ _ (Fr.refl _ _) hC rfl
                · rw [if_neg (by decide)]; intro kq
                  exact calm_mv 69 rfl rfl (Or.inl rfl) (Fr.refl _) (by decide) fun v w hd => hd
                · rw [if_neg (by decide)]; intro kq
                  intro a W K hC hd hK
                  have d6 : a.tmps[6]?.getD undef = .pointer (some ⟨p, 0, none⟩) := hd 6 (by decide)
                  have d70 : a.tmps[70]?.getD undef = .bool false := hd 70 (by decide)
                  refine wpOp_want rfl (wanted_of (want := false) (b := false) rfl rfl (by rw [eval_get]; exact d70)) ?_
                  go_wp2_with fail
                  exact hK _ _ (Fr.refl _ _) hC rfl
                · rw [if_neg (by decide)]; intro kq
                  intro a W K hC hd hK
                  have d71 : a.tmps[71]?.getD undef = .pointer (some ⟨p, 0, none⟩) := hd 71 (by decide)
                  have d70 : a.tmps[70]?.getD undef = .bool false := hd 70 (by decide)
                  refine wpOp_want rfl (wanted_of (want := false) (b := false) rfl rfl (by rw [eval_get]; exact d70)) ?_
                  go_wp2_with fail
                  refine (leftRd_calls W S p ⟨cb, ce⟩ hC.2.1).mono ?_
                  rintro e w' ⟨rfl, rfl⟩
                  exact hK _ _ (Fr.refl _ _) hC rfl
                · rw [if_neg (by decide)]; intro kq
                  intro a W K hC hd hK
                  have d8 : a.tmps[8]?.getD undef = .pointer (some ⟨q8, 0, none⟩) := hd 8 (by decide)
                  have d70 : a.tmps[70]?.getD undef = .bool false := hd 70 (by decide)
                  refine wpOp_want rfl (wanted_of (want := false) (b := false) rfl rfl (by rw [eval_get]; exact d70)) ?_
                  go_wp2_with fail
                  exact hK _ _ (Fr.refl _ _) hC rfl
                · rw [if_neg (by decide)]; intro kq
                  intro a W K hC hd hK
                  have d73 : a.tmps[73]?.getD undef = .pointer (some ⟨q8, 0, none⟩) := hd 73 (by decide)
                  have d70 : a.tmps[70]?.getD undef = .bool false := hd 70 (by decide)
                  obtain ⟨b0, b1⟩ := cells2 hC.2.2
                  refine wpOp_want rfl (wanted_of (want := false) (b := false) rfl rfl (by rw [eval_get]; exact d70)) ?_
                  go_wp2_with fail
                  exact hK _ _ (Fr.refl _ _) hC rfl
                · rw [if_neg (by decide)]; intro kq
                  intro a W K hC hd hK
                  have d74 : a.tmps[74]?.getD undef = .string (mkS cb) := hd 74 (by decide)
                  have d70 : a.tmps[70]?.getD undef = .bool false := hd 70 (by decide)
                  refine wpOp_want rfl (wanted_of (want := false) (b := false) rfl rfl (by rw [eval_get]; exact d70)) ?_
                  have hsz := mkS_size cb
                  go_wp2_with fail
                  exact hK _ _ (Fr.refl _ _) hC (by show _ = _; simp [hsz])
                · rw [if_neg (by decide)]; intro kq
                  intro a W K hC hd hK
                  have d72 : a.tmps[72]?.getD undef = .int .i64 (cb.length : Nat) := hd 72 (by decide)
                  have d75 : a.tmps[75]?.getD undef = .int .i64 (cb.length : Nat) := hd 75 (by decide)
                  have d70 : a.tmps[70]?.getD undef = .bool false := hd 70 (by decide)
                  refine wpOp_want rfl (wanted_of (want := false) (b := false) rfl rfl (by rw [eval_get]; exact d70)) ?_
                  go_wp2_with fail
                  exact hK _ _ (Fr.refl _ _) hC (by show _ = _; simp)
                · rw [if_neg (by decide)]; intro kq
                  intro a W K hC hd hK
                  have d70 : a.tmps[70]?.getD undef = .bool false := hd 70 (by decide)
                  have d76 : a.tmps[76]?.getD undef = .bool false := hd 76 (by decide)
                  refine wpOp_plain rfl rfl ?_
                  go_wp2_with fail
                  exact hK _ _ (Fr.refl _ _) hC rfl
                · rw [if_neg (by decide)]; intro kq
                  exact calm_mv 77 rfl rfl (Or.inl rfl) (Fr.refl _) (by decide) fun v w hd => hd
                · rw [if_neg (by decide)]; intro kq
                  intro a W K hC hd hK
                  have d6 : a.tmps[6]?.getD undef = .pointer (some ⟨p, 0, none⟩) := hd 6 (by decide)
                  have d78 : a.tmps[78]?.getD undef = .bool false := hd 78 (by decide)
                  refine wpOp_want rfl (wanted_of (want := false) (b := false) rfl rfl (by rw [eval_get]; exact d78)) ?_
                  go_wp2_with fail
                  exact hK _ _ (Fr.refl _ _) hC rfl
                · rw [if_neg (by decide)]; intro kq
                  intro a W K hC hd hK
                  have d79 : a.tmps[79]?.getD undef = .pointer (some ⟨p, 0, none⟩) := hd 79 (by decide)
                  have d78 : a.tmps[78]?.getD undef = .bool false := hd 78 (by decide)
                  refine wpOp_want rfl (wanted_of (want := false) (b := false) rfl rfl (by rw [eval_get]; exact d78)) ?_
                  go_wp2_with fail
                  refine (errRd_calls W S p ⟨cb, ce⟩ hC.2.1).mono ?_
                  rintro e w' ⟨rfl, rfl⟩
                  exact hK _ _ (Fr.refl _ _) hC rfl
                · rw [if_neg (by decide)]; intro kq
                  intro a W K hC hd hK
                  have d8 : a.tmps[8]?.getD undef = .pointer (some ⟨q8, 0, none⟩) := hd 8 (by decide)
                  have d78 : a.tmps[78]?.getD undef = .bool false := hd 78 (by decide)
                  refine wpOp_want rfl (wanted_of (want := false) (b := false) rfl rfl (by rw [eval_get]; exact d78)) ?_
                  go_wp2_with fail
                  exact hK _ _ (Fr.refl _ _) hC rfl
                · rw [if_neg (by decide)]; intro kq
                  intro a W K hC hd hK
                  have d81 : a.tmps[81]?.getD undef = .pointer (some ⟨q8, 1, none⟩) := hd 81 (by decide)
                  have d78 : a.tmps[78]?.getD undef = .bool false := hd 78 (by decide)
                  obtain ⟨b0, b1⟩ := cells2 hC.2.2
                  refine wpOp_want rfl (wanted_of (want := false) (b := false) rfl rfl (by rw [eval_get]; exact d78)) ?_
                  go_wp2_with fail
                  exact hK _ _ (Fr.refl _ _) hC rfl
                · rw [if_neg (by decide)]; intro kq
                  intro a W K hC hd hK
                  have d80 : a.tmps[80]?.getD undef = .int .i64 (ce : Nat) := hd 80 (by decide)
                  have d82 : a.tmps[82]?.getD undef = .int .i64 (ce : Nat) := hd 82 (by decide)
                  have d78 : a.tmps[78]?.getD undef = .bool false := hd 78 (by decide)
                  refine wpOp_want rfl (wanted_of (want := false) (b := false) rfl rfl (by rw [eval_get]; exact d78)) ?_
                  go_wp2_with fail
                  exact hK _ _ (Fr.refl _ _) hC (by show _ = _; simp)
                · rw [if_neg (by decide)]; intro kq
                  intro a W K hC hd hK
                  have d78 : a.tmps[78]?.getD undef = .bool false := hd 78 (by decide)
                  have d83 : a.tmps[83]?.getD undef = .bool false := hd 83 (by decide)
                  refine wpOp_plain rfl rfl ?_
                  go_wp2_with fail
                  exact hK _ _ (Fr.refl _ _) hC rfl
                · rw [if_neg (by decide)]; intro kq
                  exact calm_mv 84 rfl rfl (Or.inl rfl) (Fr.refl _) (by decide) fun v w hd => hd
                · rw [if_neg (by decide)]; intro kq
                  intro a W K hC hd hK
                  have d6 : a.tmps[6]?.getD undef = .pointer (some ⟨p, 0, none⟩) := hd 6 (by decide)
                  have d85 : a.tmps[85]?.getD undef = .bool false := hd 85 (by decide)
                  refine wpOp_want rfl (wanted_of (want := false) (b := false) rfl rfl (by rw [eval_get]; exact d85)) ?_
                  go_wp2_with fail
                  exact hK _ _ (Fr.refl _ _) hC rfl
                · rw [if_neg (by decide)]; intro kq
                  intro a W K hC hd hK
                  have d86 : a.tmps[86]?.getD undef = .pointer (some ⟨p, 0, none⟩) := hd 86 (by decide)
                  have d85 : a.tmps[85]?.getD undef = .bool false := hd 85 (by decide)
                  refine wpOp_want rfl (wanted_of (want := false) (b := false) rfl rfl (by rw [eval_get]; exact d85)) ?_
                  go_wp2_with fail
                  refine (endRd_calls W S p ⟨cb, ce⟩ hC.2.1).mono ?_
                  rintro e w' ⟨rfl, rfl⟩
                  exact hK _ _ (Fr.refl _ _) hC rfl
                · rw [if_neg (by decide)]; intro kq
                  intro a W K hC hd hK
                  have d12 : a.tmps[12]?.getD undef = .int .i64 (ce : Nat) := hd 12 (by decide)
                  have d85 : a.tmps[85]?.getD undef = .bool false := hd 85 (by decide)
                  refine wpOp_want rfl (wanted_of (want := false) (b := false) rfl rfl (by rw [eval_get]; exact d85)) ?_
                  go_wp2_with fail
                  exact hK _ _ (Fr.refl _ _) hC rfl
                · rw [if_neg (by decide)]; intro kq
                  intro a W K hC hd hK
                  have d87 : a.tmps[87]?.getD undef = .int .i64 (rEnd ⟨cb, ce⟩ : Nat) := hd 87 (by decide)
                  have d88 : a.tmps[88]?.getD undef = .int .i64 (ce : Nat) := hd 88 (by decide)
                  have d85 : a.tmps[85]?.getD undef = .bool false := hd 85 (by decide)
                  refine wpOp_want rfl (wanted_of (want := false) (b := false) rfl rfl (by rw [eval_get]; exact d85)) ?_
                  have hend := (show rEnd ⟨cb, ce⟩ = ce by unfold rEnd; rw [if_neg (fun h => E0.out h.1)])
                  go_wp2_with fail
                  exact hK _ _ (Fr.refl _ _) hC (by show _ = _; simp [hend])
                · rw [if_neg (by decide)]; intro kq
                  intro a W K hC hd hK
                  have d85 : a.tmps[85]?.getD undef = .bool false := hd 85 (by decide)
                  have d89 : a.tmps[89]?.getD undef = .bool false := hd 89 (by decide)
                  refine wpOp_plain rfl rfl ?_
                  go_wp2_with fail
                  exact hK _ _ (Fr.refl _ _) hC rfl
              · intro vs w9 fw9 cw9 hV
                have v90 : vs 22 = .bool false := hV 22 _ _ rfl rfl (by decide)
                clear hV
                simp only [putL, Act.put, List.setIfInBounds_toArray, List.set_cons_zero, List.set_cons_succ, v90]
                go_wp2_with fail
                go_roundw
                case rel => exact ⟨k + 1, by omega, by go_num, by rw [HS.out]; exact cw9.2.1, by rw [HS.out]; exact cw9.2.2, by have := fw9.size; omega, FZ.out.then' (fw9.mono fun _ _ h => h.elim)⟩
                case measure => simp [intOf]; omega

          · have : k = n := by omega
            subst this
            go_wp2_with fail
            go_ret
            exact ⟨rfl, hf.none⟩

theorem reads_law (w : World) (B : Option Addr) (m cbp : Nat) (bs : List UInt8) (o : RowAt w B (bcells bs) ∧ bs.length = m ∧ m ≤ cbp ∧ cbp ≤ maxLen ∧ (B = none → m = 0 ∧ cbp = 0))
    (A : Option Addr) (n c : Nat) (l : List Item) (o2 : ItemsAt w A l ∧ l.length = n ∧ n ≤ c ∧ c ≤ maxLen ∧ (∀ i ∈ l, ItemOK i) ∧ (A = none → n = 0 ∧ c = 0)) :
    Calls Try.prog 7 #[.slice B m cbp, .slice A n c] w (BoolPost w true) :=
  reads_walk w B m cbp bs o.1 o.2.1 o.2.2.2.2 (Nat.le_trans o.2.2.1 o.2.2.2.1) A n c l o2.1 o2.2.1 (Nat.le_trans o2.2.2.1 o2.2.2.2.1) o2.2.2.2.2.1
end Go.Proofs.Ytcpcmcdfncjnaaa
