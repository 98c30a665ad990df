/- interrexref16's Lacking and Text; Board's Write, Copy, and interrexlaw16.bytes. -/
import Derived.Test.YtcpcmcdfncjnaaaRefAdv
import Derived.Test.YtcpcmcdfncjnaaaLives1
namespace Go.Proofs.Ytcpcmcdfncjnaaa
open Go.RowKit

set_option maxRecDepth 100000 in
set_option maxHeartbeats 1600000 in
theorem lackR_calls (w : World) (n : Nat) (L : List Nat) (r : Nat) (hL : L.length = 7) (hn : n ≤ 7) (hr : r < 256) (hl : ∀ x ∈ L, x < 256) :
    Calls Try.prog 58 #[rbV n L, .int .u8 r] w (LackPost w (lackB (L.take n) r)) := by
  have hLL := hid hL
  have hgen : ∀ k, k < n → ∃ x, L[k]? = some x := fun k hk => ⟨_, List.getElem?_eq_getElem (by rw [hL]; omega)⟩
  have HG := hid hgen; clear hgen
  have hb0 : (w.alloc (.cells (rbC n L).toArray 86)).heap[w.heap.size]? = some (.cells (rbC n L).toArray 86 (0, 0)) := heap_alloc_new w _
  have f0 : Fr noB w (w.alloc (.cells (rbC n L).toArray 86)) := (Fr.refl noB w).alloc _
  obtain ⟨x0, x1, x2, x3, x4, x5, x6, e7⟩ := list7 hL
  have hc0 := rb_n hb0
  rw [show rbV n L = .agg #[.int .i64 n, .int .u8 x0, .int .u8 x1, .int .u8 x2, .int .u8 x3, .int .u8 x4, .int .u8 x5, .int .u8 x6] by rw [e7]; rfl]
  have e8 : (rbC n L).toArray = #[.int .i64 n, .int .u8 x0, .int .u8 x1, .int .u8 x2, .int .u8 x3, .int .u8 x4, .int .u8 x5, .int .u8 x6] := by rw [e7]; rfl
  rw [e8] at f0 hc0
  have hb1 : (w.alloc (.cells #[.int .i64 n, .int .u8 x0, .int .u8 x1, .int .u8 x2, .int .u8 x3, .int .u8 x4, .int .u8 x5, .int .u8 x6] 86)).heap[w.heap.size]? = some (.cells (rbC n L).toArray 86 (0, 0)) := by rw [← e8]; exact hb0
  have HB := hid hb1
  clear hb0 hb1 e7 e8 hL
  go_enter Try.func58, Try.ntmps58
  go_wp2_with fail
  generalize w.alloc (.cells #[.int .i64 n, .int .u8 x0, .int .u8 x1, .int .u8 x2, .int .u8 x3, .int .u8 x4, .int .u8 x5, .int .u8 x6] 86) = w0 at *
  generalize hbk : w.heap.size = bk at *
  have HBK := hid hbk; clear hbk
  go_loopw [5, 9] (fun v i wr => ∃ k : Nat, k ≤ n ∧ i = .int .i64 k ∧ (∃ A m cc, Hid ((lackF (L.take n) r k).length = m) ∧ v = .slice A m cc ∧ wr.ownsRow w0.heap.size 5 1 v m (bcells (lackF (L.take n) r k))) ∧ Fr noB w0 wr) (fun _ i _ => n - (intOf i).toNat)
  case atStart => exact ⟨0, Nat.zero_le _, rfl, ⟨none, 0, 0, rfl, rfl, World.ownsRow_nil _ _ _ _⟩, Fr.refl _ _⟩
  case round =>
    obtain ⟨k, hk, rfl, ⟨A, m, cc, HM, rfl, hown⟩, hf⟩ := hrel
    have hmk : m ≤ k := by rw [← HM.out]; exact lackF_length _ r k
    have hz := hf.size
    have hz0 := f0.size
    by_cases hkn : k < n
    · obtain ⟨x, hx⟩ := HG.out k hkn
      have c1 := rb_at (hf.heap HB.out id) hx
      have hx256 := hl x (List.mem_of_getElem? hx)
      have HX : Hid ((L.take n).getD k 0 = x) := by unfold Hid; rw [List.getD_eq_getElem?_getD, List.getElem?_take, if_pos hkn, hx]; rfl
      have HS := hid (lackF_succ (L.take n) r k)
      rw [HX.out] at HS
      have hh := fun W => hasR_calls W x r hx256 hr
      clear hx HX
      cases hb : hasB x r with
      | true =>
        rw [hb] at hh HS
        have HBB := hid hb; clear hb
        go_wp2_with fail
        refine (hh _).mono ?_
        rintro e w2 ⟨rfl, rfl⟩
        go_wp2_with fail
        go_roundw
        case rel => exact ⟨k + 1, by omega, by go_num, ⟨A, m, cc, by rw [HS.out]; exact HM, rfl, by rw [HS.out]; exact hown⟩, hf⟩
        case measure => simp [intOf]; omega
      | false =>
        rw [hb] at hh HS
        have HBB := hid hb; clear hb
        go_wp2_with fail
        refine (hh _).mono ?_
        rintro e w2 ⟨rfl, rfl⟩
        have hown0 : wr.ownsRow 0 5 1 (.slice A m cc) m (bcells (lackF (L.take n) r k)) := own_mono hown (fun _ _ => Nat.zero_le _)
        go_wp2_with (at_builtin; refine wpList_app Try.app8 rfl (.tmp 19) (.tmp 22) rfl _ m (bcells (lackF (L.take n) r k)) rfl (hown0.alloc _) _ 1 1 [.int .u8 (k : Int)] rfl rfl (cell_one_row _ _ _) (fun u hu => by simp at hu; subst hu; rfl) (by simp) (by omega) (by omega) ?_)
        intro A' c' w3 hown' hg hat
        have hbase : ∀ g, (Value.slice A m cc).ownBlock = some g → w0.heap.size ≤ g := fun g hg => (hown.lt g hg).1
        have f3 : Fr noB w0 w3 := Fr.grown (hf.alloc _) hg (fun g hg => Or.inr (hbase g hg))
        have hown4 : w3.ownsRow w0.heap.size 5 1 (.slice A' (m + 1) c') (m + 1) (bcells (lackF (L.take n) r k ++ [UInt8.ofNat k])) := by
          have : bcells (lackF (L.take n) r k ++ [UInt8.ofNat k]) = bcells (lackF (L.take n) r k) ++ [.int .u8 (k : Int)] := by
            simp [bcells]; omega
          rw [this]
          refine own_mono hown' (fun g hg => ?_)
          rcases hat with e | e
          · exact hbase g (e ▸ hg)
          · rw [hg] at e; simp at e; omega
        have HM' : Hid ((lackF (L.take n) r k ++ [UInt8.ofNat k]).length = m + 1) := by unfold Hid; rw [List.length_append, HM.out]; rfl
        clear hg hat hown' hown0 hown hf
        go_wp2_with fail
        go_roundw
        case rel => exact ⟨k + 1, by omega, by go_num, ⟨A', m + 1, c', by rw [HS.out]; exact HM', rfl, by rw [HS.out]; exact hown4⟩, f3⟩
        case measure => simp [intOf]; omega
    · have : k = n := by omega
      subst this
      go_wp2_with fail
      go_ret
      have e : lackF (L.take k) r k = lackB (L.take k) r := by unfold lackB; rw [List.length_take, hLL.out, Nat.min_eq_left hn]
      rw [e] at HM hown
      exact ⟨A, cc, by rw [HM.out]; rfl, by rw [HM.out]; exact own_mono hown (fun g hg => Nat.le_trans f0.size (hown.lt g hg).1), f0.then' hf⟩
/-- A board's bytes. -/
def boardB (n : Nat) (l : List Nat) : List UInt8 := leB 1 n ++ l.map UInt8.ofNat
theorem leB_one (n : Nat) : leB 1 n = [UInt8.ofNat n] := rfl
set_option maxRecDepth 100000 in
set_option maxHeartbeats 1600000 in
theorem textBd_calls (w : World) (n : Nat) (L : List Nat) (hL : L.length = 7) (hn : n ≤ 7) (hl : ∀ x ∈ L, x < 256) :
    Calls Try.prog 87 #[rbV n L] w (StrPost w (boardB n (L.take n))) := by
  have hLL := hid hL
  have hgen : ∀ k, k < n → ∃ x, L[k]? = some x := fun k hk => ⟨_, List.getElem?_eq_getElem (by rw [hL]; omega)⟩
  have HG := hid hgen; clear hgen
  have hb0 : (w.alloc (.cells (rbC n L).toArray 86)).heap[w.heap.size]? = some (.cells (rbC n L).toArray 86 (0, 0)) := heap_alloc_new w _
  have f0 : Fr noB w (w.alloc (.cells (rbC n L).toArray 86)) := (Fr.refl noB w).alloc _
  obtain ⟨x0, x1, x2, x3, x4, x5, x6, e7⟩ := list7 hL
  have hc0 := rb_n hb0
  rw [show rbV n L = .agg #[.int .i64 n, .int .u8 x0, .int .u8 x1, .int .u8 x2, .int .u8 x3, .int .u8 x4, .int .u8 x5, .int .u8 x6] by rw [e7]; rfl]
  have e8 : (rbC n L).toArray = #[.int .i64 n, .int .u8 x0, .int .u8 x1, .int .u8 x2, .int .u8 x3, .int .u8 x4, .int .u8 x5, .int .u8 x6] := by rw [e7]; rfl
  rw [e8] at f0 hc0
  have hb1 : (w.alloc (.cells #[.int .i64 n, .int .u8 x0, .int .u8 x1, .int .u8 x2, .int .u8 x3, .int .u8 x4, .int .u8 x5, .int .u8 x6] 86)).heap[w.heap.size]? = some (.cells (rbC n L).toArray 86 (0, 0)) := by rw [← e8]; exact hb0
  have HB := hid hb1
  clear hb0 hb1 e7 e8 hL
  go_enter Try.func87, Try.ntmps87
  go_wp2_with fail
  generalize w.alloc (.cells #[.int .i64 n, .int .u8 x0, .int .u8 x1, .int .u8 x2, .int .u8 x3, .int .u8 x4, .int .u8 x5, .int .u8 x6] 86) = w0 at *
  generalize hbk : w.heap.size = bk at *
  have HBK := hid hbk; clear hbk
  refine (numR_calls w0 n 1 (by omega) (by omega)).mono ?_
  rintro e w1 ⟨rfl, f1⟩
  have HB1 := hid (f1.heap HB.out id)
  have hc1 := rb_n HB1.out
  have f01 := f0.then' f1
  clear hc0 f0 f1
  go_wp2_with fail
  go_loopw [3, 11] (fun v i wr => ∃ k : Nat, k ≤ n ∧ i = .int .i64 k ∧ v = .string (mkS (leB 1 n ++ (L.take k).map UInt8.ofNat)) ∧ Fr noB w1 wr) (fun _ i _ => n - (intOf i).toNat)
  case atStart => exact ⟨0, Nat.zero_le _, rfl, by simp, Fr.refl _ _⟩
  case round =>
    obtain ⟨k, hk, rfl, rfl, hf⟩ := hrel
    by_cases hkn : k < n
    · obtain ⟨x, hx⟩ := HG.out k hkn
      have c1 := rb_at (hf.heap HB1.out id) hx
      have hx256 := hl x (List.mem_of_getElem? hx)
      have hap := mkS_append (leB 1 n ++ (L.take k).map UInt8.ofNat) [UInt8.ofNat x]
      have HS : Hid (leB 1 n ++ (L.take (k + 1)).map UInt8.ofNat = leB 1 n ++ (L.take k).map UInt8.ofNat ++ [UInt8.ofNat x]) := by unfold Hid; rw [take_snoc' hx]; simp
      have hq : (mkS (leB 1 n ++ (L.take k).map UInt8.ofNat)).size + (mkS [UInt8.ofNat x]).size ≤ 9223372036854775807 := by
        rw [mkS_size, mkS_size, List.length_append, leB_length, List.length_map, List.length_take]; simp; omega
      have hcv : (convert 30 9 (.slice (some ⟨wr.heap.size, 0, none⟩) 1 1)).run Try.prog (wr.alloc (.cells #[.int .u8 (x : Int)] 5)) =
          .ok (.string (mkS [UInt8.ofNat x])) (wr.alloc (.cells #[.int .u8 (x : Int)] 5)) := by
        have := Try.oneStr wr x
        rw [show ((x : Int) % 256) = (x : Int) by omega] at this
        exact this
      clear hx
      have HAP := hid hap; clear hap
      generalize mkS (leB 1 n ++ (L.take k).map UInt8.ofNat) = s1 at *
      generalize mkS [UInt8.ofNat x] = s2 at *
      go_wp2_with fail
      go_roundw
      case rel => exact ⟨k + 1, by omega, by go_num, by rw [HS.out, ← HAP.out], hf.alloc _⟩
      case measure => simp [intOf]; omega
    · have : k = n := by omega
      subst this
      go_wp2_with fail
      go_ret
      exact ⟨rfl, f01.then' hf⟩
set_option maxRecDepth 100000 in
set_option maxHeartbeats 1600000 in
theorem writeBo_calls (w : World) (S T : Nat → Prop) (p q : Nat) (l : List Nat) (h : BoAt w S p l) (hw : WrAt w T q []) (hl : ∀ x ∈ l, x < 256) (h7 : l.length ≤ 7) (hST : ∀ k, k < w.heap.size → S k → ¬ T k) :
    Calls Try.prog 86 #[.pointer (some ⟨p, 0, none⟩), .pointer (some ⟨q, 0, none⟩)] w (fun e w' => e = .returned (.tuple #[]) ∧ WrAt w' (andNew T w) q (boardB l.length l) ∧ Fr T w w') := by
  obtain ⟨g, n, c, h⟩ := h
  have hc := h.cell
  have hm := h.max
  have hcp := h.cap
  have HL := h.len
  rw [HL.out] at h7 ⊢
  go_enter Try.func86, Try.ntmps86
  go_wp2_with fail
  refine (byte_calls w T q [] n hw (by omega) (by simp)).mono ?_
  rintro e w1 ⟨rfl, h1, f1⟩
  have hcl : ∀ W, Fr T w W → W.cell? ⟨p, 0, none⟩ = some (.slice (some ⟨g, 0, none⟩) n c) := fun W f => (h.fr f hST).cell
  have hc1 := hcl w1 f1
  go_wp2_with fail
  go_loopw [19] (fun i wr => ∃ k : Nat, k ≤ n ∧ i = .int .i64 k ∧ WrAt wr (andNew T w) q (leB 1 n ++ (l.take k).map UInt8.ofNat) ∧ Fr T w wr) (fun i _ => n - (intOf i).toNat)
  case atStart => exact ⟨0, Nat.zero_le _, rfl, by simpa using h1, f1⟩
  case round =>
    obtain ⟨k, hk, rfl, hw1, hf⟩ := hrel
    by_cases hkn : k < n
    · obtain ⟨x, hx⟩ : ∃ x, l[k]? = some x := ⟨_, List.getElem?_eq_getElem (by rw [HL.out]; exact hkn)⟩
      obtain ⟨c1, z1⟩ := (h.fr hf hST).at hx
      have hx256 := hl x (List.mem_of_getElem? hx)
      have HS : Hid (leB 1 n ++ (l.take (k + 1)).map UInt8.ofNat = leB 1 n ++ (l.take k).map UInt8.ofNat ++ leB 1 x) := by unfold Hid; rw [take_snoc' hx]; simp [leB_one]
      have hbc := byte_calls wr _ q _ x hw1 hx256 (by rw [List.length_append, leB_length, List.length_map, List.length_take]; omega)
      clear hx
      go_wp2_with fail
      refine hbc.mono ?_
      rintro e w2 ⟨rfl, g1, g2⟩
      clear hbc
      go_wp2_with fail
      go_roundw
      case rel => exact ⟨k + 1, by omega, by go_num, by rw [HS.out]; exact g1.mono (fun i _ hi => hi.elim id fun q => Or.inr (by have := hf.size; omega)), hf.then g2⟩
      case measure => simp [intOf]; omega
    · have : k = n := by omega
      subst this
      rw [List.take_of_length_le (by rw [HL.out]; exact Nat.le_refl _)] at hw1
      go_wp2_with fail
      go_end0
      exact ⟨rfl, hw1, hf⟩
set_option maxRecDepth 100000 in
theorem bytes16_calls (w : World) (S : Nat → Prop) (p : Nat) (l : List Nat) (h : BoAt w S p l) (hl : ∀ x ∈ l, x < 256) (h7 : l.length ≤ 7) :
    Calls Try.prog 55 #[.pointer (some ⟨p, 0, none⟩)] w (StrPost w (boardB l.length l)) := by
  have hbo := h.cut.fr0 ((Fr.refl noB w).alloc (.cells #[.slice none 0 0] 32))
  have hwr := WrAt.new w
  have hlen : (boardB l.length l).length = l.length + 1 := by unfold boardB; rw [List.length_append, leB_length, List.length_map]; omega
  have HLN := hid hlen; clear hlen
  go_enter Try.func55, Try.ntmps55
  go_wp2_with fail
  refine (writeBo_calls _ _ (upB w.heap.size) p w.heap.size l hbo hwr hl h7 (fun k _ h1 h2 => by have := h1.2; unfold upB at h2; omega)).mono ?_
  rintro e w1 ⟨rfl, h1, f1⟩
  have F1 : Hid (Fr (upB w.heap.size) w w1) := ((Fr.refl _ w).alloc _).then' f1
  clear f1 hwr hbo
  go_wp2_with fail
  refine (bytes_calls w1 _ w.heap.size (boardB l.length l) h1 (by rw [HLN.out]; omega)).mono ?_
  rintro e w2 ⟨A, c, rfl, h2, f2⟩
  have hcv := Try.toStr (own_row h2) rfl c
  have F2 : Hid (Fr noB w w2) := F1.out.none.then' f2
  clear h1 h2 f2
  generalize (boardB l.length l).length = m at *
  go_wp2_with fail
  go_ret
  exact ⟨rfl, F2.out⟩
theorem Try.appR : AppTy Try.prog 121 45 (.int .u8 0) 1 1 := ⟨Try.underlying121, by kernel_rfl, rfl, by decide⟩
set_option maxRecDepth 100000 in
theorem copyBo_calls (w : World) (S : Nat → Prop) (p : Nat) (l : List Nat) (h : BoAt w S p l) (h7 : l.length ≤ 7) (h1 : 1 ≤ l.length) :
    Calls Try.prog 54 #[.pointer (some ⟨p, 0, none⟩)] w (fun e w' => ∃ q, e = .returned (.pointer (some ⟨q, 0, none⟩)) ∧ BoAt w' (upB w.heap.size) q l ∧ Fr noB w w') := by
  obtain ⟨g, n, c, h⟩ := h
  have hc := h.cell
  have HL := h.len
  rw [HL.out] at h7 h1
  have hrow : RowAt (w.alloc (.cells #[] 45)) (some ⟨g, 0, none⟩) (ncells l) := by
    have : RowAt w (some ⟨g, 0, none⟩) (ncells l) := fun j u hu => by
      refine ⟨_, rfl, ?_⟩
      have hj : j < l.length := by have := (List.getElem?_eq_some_iff.1 hu).1; rwa [ncells_length] at this
      have e : (⟨g, 0, none⟩ : Addr).add j = ⟨g, j, none⟩ := by unfold Addr.add; split <;> simp_all
      rw [e, (h.at (List.getElem?_eq_getElem hj)).1, ← hu, ncells, List.getElem?_map, List.getElem?_eq_getElem hj]; rfl
    exact this.fr0 ((Fr.refl noB w).alloc _)
  have hone : ∀ u ∈ ncells l, u.oneCell' = true := by
    intro u hu; simp only [ncells, List.mem_map] at hu; obtain ⟨b, _, rfl⟩ := hu; rfl
  have hown : (w.alloc (.cells #[] 45)).ownsRow 0 45 1 (.slice (some ⟨w.heap.size, 0, none⟩) 0 0) 0 [] := World.ownsRow_made w #[] 0 (Nat.zero_le _) (by unfold maxLen; omega) rfl
  have hB := fun (w : World) (a : Option Addr) (n c : Nat) => Lib.run_eql_slice_nil (P := Try.prog) w 121 45 a n c 0 0 Try.underlying121
  have HI := hid h
  clear h
  go_enter Try.func54, Try.ntmps54
  go_wp2_with fail
  have hclone : Calls Try.prog 85 #[.slice (some ⟨g, 0, none⟩) n c] w (fun e w' => ∃ A c', e = .returned (.slice A n c') ∧ w'.ownsRow w.heap.size 45 1 (.slice A n c') n (ncells l) ∧ Fr noB w w') := by
    go_enter Try.func85, Try.ntmps85
    go_wp2_with (at_builtin; refine wpList_app Try.appR rfl (.tmp 5) (.tmp 6) rfl _ 0 [] rfl hown (some ⟨g, 0, none⟩) n c (ncells l) rfl (by rw [ncells_length, HL.out, Nat.mul_one]) hrow hone (by simp) (by omega) (by omega) ?_)
    intro A' c' w1 hown' hg hat
    go_wp2_with fail
    go_ret
    have hat' : ∃ k, (Value.slice A' n c').ownBlock = some k ∧ w.heap.size ≤ k := by
      rcases hat with e | e
      · exact ⟨_, e, Nat.le_refl _⟩
      · exact ⟨_, e, by simp⟩
    refine ⟨A', c', rfl, own_mono hown' ?_, ?_⟩
    · obtain ⟨k, e, hk⟩ := hat'
      intro g hg; rw [e] at hg; cases hg; exact hk
    · refine Fr.grown ((Fr.refl noB w).alloc _) hg (fun k hk => Or.inr ?_)
      simp [Value.ownBlock] at hk; omega
  refine hclone.mono ?_
  clear hclone hrow hown hone
  rintro e w1 ⟨A, c', rfl, h2, f2⟩
  have HO := hid h2
  have HF := hid f2
  clear h2 f2
  go_wp2_with fail
  go_ret
  have hz := HF.out.size
  refine ⟨w1.heap.size, rfl, ?_, HF.out.alloc _⟩
  rcases HO.out.2 with ⟨e, e2⟩ | ⟨g', cap, cur, e, hb, hh, h3, h4, h5, h6⟩
  · have := HO.out.1
    rw [e2] at this; simp at this; omega
  · cases e
    refine ⟨g', n, c', HL.out, by have := heap_alloc_new w1 (.cells #[.slice (some ⟨g', 0, none⟩) n c'] 123); simpa using this, ⟨cur.toList.drop n, ?_⟩, h3, by unfold maxLen at h4; omega, by unfold upB; omega, hb⟩
    have h7 := ((Fr.refl noB w1).alloc (.cells #[.slice (some ⟨g', 0, none⟩) n c'] 123)).heap hh id
    have e3 : (ncells l ++ cur.toList.drop n).toArray = cur := by
      have : ncells l = cur.toList.take n := by simpa using h6.symm
      rw [this, List.take_append_drop]
    rw [e3]; exact h7
end Go.Proofs.Ytcpcmcdfncjnaaa
