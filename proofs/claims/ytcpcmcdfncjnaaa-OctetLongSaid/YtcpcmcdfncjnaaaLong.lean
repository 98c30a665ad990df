/- interrexlaw01.OctetLong: the walk. -/
import Derived.Test.YtcpcmcdfncjnaaaWr5
import Derived.Test.YtcpcmcdfncjnaaaReads
import Derived.Test.YtcpcmcdfncjnaaaOpenItem
namespace Go.Proofs.Ytcpcmcdfncjnaaa
open Go.RowKit

theorem WrAt.newE (w : World) : WrAt (w.alloc (.cells #[.slice none 0 0] 32)) (eqB w.heap.size) w.heap.size [] :=
  ⟨none, 0, _, by decide, heap_alloc_new w _, World.ownsRow_nil _ _ _ _, rfl, fun k h => by simp [Value.ownBlock] at h⟩
theorem set_step (m k : Nat) (c : UInt8) (h : k < m) : (List.replicate k c ++ List.replicate (m - k) 0).set k c = List.replicate (k + 1) c ++ List.replicate (m - (k + 1)) 0 := by
  rw [List.set_append_right _ _ (by simp)]
  obtain ⟨d, hd⟩ : ∃ d, m - k = d + 1 := ⟨m - k - 1, by omega⟩
  rw [show m - (k + 1) = d by omega, hd, List.replicate_succ' (n := k)]
  simp [List.replicate_succ]
theorem rowB_empty (m : Nat) : (rowB (List.replicate m ⟨#[]⟩)).length = 2 + 2 * min m 65535 := by
  have h : ∀ k, ((List.replicate k (⟨#[]⟩ : ByteArray)).flatMap textB).length = 2 * k := fun k => by
    induction k with
    | zero => rfl
    | succ k ih =>
      rw [List.replicate_succ, List.flatMap_cons, List.length_append, ih]
      have : (textB ⟨#[]⟩).length = 2 := by decide
      omega
  unfold rowB
  rw [List.length_append, leB_length, List.take_replicate, h, Nat.min_comm]
theorem sumSz_empty (m : Nat) : sumSz (List.replicate m ⟨#[]⟩) = 2 * m := by
  induction m with
  | zero => rfl
  | succ m ih =>
    unfold sumSz at *
    rw [List.replicate_succ, List.map_cons, List.sum_cons, ih]
    have : (⟨#[]⟩ : ByteArray).size = 0 := rfl
    omega
theorem rText_long (s : ByteArray) : rText ⟨textB s, 0⟩ 65535 = (⟨[], 0⟩, s.data.toList.take 65535) := by
  have hs : s.data.toList.length = s.size := by simp
  have h := rCount_app (min s.size 65535) (s.data.toList.take 65535) 65535 (by omega) (by omega)
  unfold rText textB
  rw [h]
  have := rTake_app (s.data.toList.take 65535) [] 0 (min s.size 65535) (by rw [List.length_take, hs, Nat.min_comm])
  rw [List.append_nil] at this
  exact this

/-- A slice of so many elements. -/
def LenV (U : Nat → Prop) (n : Nat) : Stb (Fr U) := ⟨fun v _ => ∃ A c, v = .slice A n c, fun _ _ _ h _ => h⟩
def LongC (U : Nat → Prop) (q : Nat) (wa : World) (ts : List UInt8) (k : Nat) (W : World) : Prop := Fr U wa W ∧ RdAt W U q ⟨if k = 0 then ts else [], 0⟩

set_option maxRecDepth 100000 in
set_option maxHeartbeats 6400000 in
theorem long_walk (w : World) (a0 a1 : Nat) (h0 : a0 < 256) (h1 : a1 < 256) :
    Calls Try.prog 6 #[.int .u8 a0, .int .u8 a1] w (BoolPost w true) := by
  have hlv := @lives1_calls
  obtain ⟨m, HM⟩ : ∃ m, Hid (m = 65530 + a0 % 12) := ⟨_, rfl⟩
  have hm1 : 1 ≤ m := by have := HM.out; omega
  have hm2 : m ≤ 70000 := by have := HM.out; omega
  have hmi : IntKind.i64.wrap (65530 + (a0 : Int) % 12) = (m : Int) := by rw [IntKind.wrap_i64]; have := HM.out; omega
  obtain ⟨i5, hi5, hz5, hs5, hb5⟩ := info_parts (show (Try.prog.info? 5).map (fun i => (i.zero, i.size, i.bytes)) = some (some (.int .u8 0), 1, 1) by kernel_rfl)
  obtain ⟨i9, hi9, hz9, hs9, hb9⟩ := info_parts (show (Try.prog.info? 9).map (fun i => (i.zero, i.size, i.bytes)) = some (some (.string ⟨#[]⟩), 1, 16) by kernel_rfl)
  have mk1 : ∀ W, (Instr.makeSlice 30 (.int .i64 (m : Int)) (.int .i64 (m : Int))).run Try.prog W = .ok (.slice (some ⟨W.heap.size, 0, none⟩) m m) (W.alloc (.cells (madeCells #[Value.int .u8 0] m) 5)) := fun W => by
    have := run_make (P := Try.prog) W 30 5 i5 _ Try.underlying30 hi5 hz5 .i64 .i64 m m (by omega) (by omega) (by rw [hb5]; omega) (by omega)
    simp only [Int.toNat_natCast, hs5, Nat.mul_one] at this
    exact this
  have mk2 : ∀ W, (Instr.makeSlice 22 (.int .i64 (m : Int)) (.int .i64 (m : Int))).run Try.prog W = .ok (.slice (some ⟨W.heap.size, 0, none⟩) m m) (W.alloc (.cells (madeCells #[Value.string ⟨#[]⟩] m) 9)) := fun W => by
    have := run_make (P := Try.prog) W 22 9 i9 _ Try.underlying22 hi9 hz9 .i64 .i64 m m (by omega) (by omega) (by rw [hb9]; omega) (by omega)
    simp only [Int.toNat_natCast, hs9, Nat.mul_one] at this
    exact this
  clear hi5 hz5 hs5 hb5 hi9 hz9 hs9 hb9
  go_enter Try.func6, Try.ntmps6
  go_wp2_with (go_at_call 14; refine (hlv _).mono ?_; rintro e w1 ⟨rfl, f1⟩)
  have hb2 : BytesB (w1.alloc (.cells (madeCells #[Value.int .u8 0] m) 5)) w1.heap.size (List.replicate m 0) := by
    unfold BytesB; rw [heap_alloc_new, ← madeU8]
  have f2 : Fr (upB w.heap.size) w (w1.alloc (.cells (madeCells #[Value.int .u8 0] m) 5)) := (f1.up0 _).alloc _
  have hbb : w.heap.size ≤ w1.heap.size := f1.size
  clear f1 mk1
  generalize w1.alloc (.cells (madeCells #[Value.int .u8 0] m) 5) = w2 at *
  generalize w1.heap.size = bb at *
  obtain ⟨c, hc⟩ : ∃ c : UInt8, c.toNat = a1 := ⟨UInt8.ofNat a1, by simp; omega⟩
  subst hc
  go_loopw [22] (fun i wr => ∃ k : Nat, k ≤ m ∧ i = .int .i64 k ∧ BytesB wr bb (List.replicate k c ++ List.replicate (m - k) 0) ∧ Fr (upB w.heap.size) w wr) (fun i _ => m - (intOf i).toNat)
  case atStart => exact ⟨0, Nat.zero_le _, rfl, by simpa using hb2, f2⟩
  case round =>
    clear hb2 f2
    obtain ⟨k, hk, rfl, hb, hf⟩ := hrel
    by_cases hkm : k < m
    · have hcell : wr.cell? ⟨bb, k, none⟩ = some (.int .u8 ((List.replicate k c ++ List.replicate (m - k) 0)[k]'(by simp; omega)).toNat) := by
        have := hb.row.cell (j := k) (u := .int .u8 ((List.replicate k c ++ List.replicate (m - k) 0)[k]'(by simp; omega)).toNat) (by simp only [bcells, List.getElem?_map]; rw [List.getElem?_eq_getElem (by simp; omega)]; rfl)
        have e : (⟨bb, 0, none⟩ : Addr).add k = ⟨bb, k, none⟩ := by unfold Addr.add; split <;> simp_all
        rw [e] at this
        exact this
      have hfree := hb.free k
      have hset := hb.set k c
      rw [set_step m k c hkm] at hset
      have hfs : Fr (upB w.heap.size) w (wr.setCell ⟨bb, k, none⟩ (.int .u8 c.toNat)) := hf.setCell (p := ⟨bb, k, none⟩) (Or.inl hbb) _
      generalize (List.replicate k c ++ List.replicate (m - k) 0)[k]'(by simp; omega) = old at *
      have HS := hid (And.intro hset hfs)
      clear hset hfs hb hf
      go_wp2_with fail
      go_roundw
      case rel => exact ⟨k + 1, by omega, by go_num, HS.out.1, HS.out.2⟩
      case measure => simp [intOf]; omega
    · have : k = m := by omega
      subst this
      rw [Nat.sub_self, List.replicate_zero, List.append_nil] at hb
      have hcv : ∀ W, Fr noB wr W → (convert 30 9 (.slice (some ⟨bb, 0, none⟩) k k)).run Try.prog W = .ok (.string (mkS (List.replicate k c))) W := fun W f => Try.toStr (hb.row.fr0 f) (by simp) k
      have hcvd := hcv _ (((Fr.refl noB wr).alloc (.cells #[.slice none 0 0] 32)).alloc (.cells #[.slice none 0 0] 32))
      have hv1 := (WrAt.newE wr).fr ((Fr.refl noB _).alloc (.cells #[.slice none 0 0] 32)) (fun _ _ _ => id)
      have hv2 := WrAt.newE (wr.alloc (.cells #[.slice none 0 0] 32))
      have f3 : Fr (upB w.heap.size) w ((wr.alloc (.cells #[.slice none 0 0] 32)).alloc (.cells #[.slice none 0 0] 32)) := (hf.alloc _).alloc _
      have g3 : Fr noB wr ((wr.alloc (.cells #[.slice none 0 0] 32)).alloc (.cells #[.slice none 0 0] 32)) := ((Fr.refl noB wr).alloc _).alloc _
      have z3 : ((wr.alloc (.cells #[.slice none 0 0] 32)).alloc (.cells #[.slice none 0 0] 32)).heap.size = wr.heap.size + 2 := by simp
      have hbl : bb < wr.heap.size := (Array.getElem?_eq_some_iff.1 hb).1
      simp only [World.size_alloc] at hv2
      go_wp2_with fail
      generalize ((wr.alloc (.cells #[.slice none 0 0] 32)).alloc (.cells #[.slice none 0 0] 32)) = w3 at *
      have hz0 := hf.size
      clear hcvd hf
      generalize hp : wr.heap.size = p at *
      have HP := hid hp; clear hp
      have hss : (mkS (List.replicate k c)).size = k := by rw [mkS_size, List.length_replicate]
      have HSS := hid hss; clear hss
      refine (text_calls w3 (eqB p) p [] (mkS (List.replicate k c)) hv1 (by rw [HSS.out]; unfold maxLen; omega) (by rw [HSS.out]; simp; omega)).mono ?_
      rintro e w4 ⟨rfl, h4, f4⟩
      rw [List.nil_append] at h4
      have hv2' := hv2.fr f4 (fun b _ hb1 hb2 => by unfold eqB at hb1 hb2; omega)
      have hcv4 : ∀ W, Fr (fun b => p ≤ b) w3 W → (convert 30 9 (.slice (some ⟨bb, 0, none⟩) k k)).run Try.prog W = .ok (.string (mkS (List.replicate k c))) W := fun W f => Try.toStr (((hb.row.fr0 g3).fr f (fun a e _ _ h => by cases e; exact absurd h (by simp only []; omega)))) (by simp) k
      have z4 := f4.size
      clear hv1 hv2
      go_wp2_with fail
      have hr5 : RowAt (w4.alloc (.cells (madeCells #[Value.string ⟨#[]⟩] k) 9)) (some ⟨w4.heap.size, 0, none⟩) (strs (List.replicate k ⟨#[]⟩)) := by
        rw [← madeStr]; exact new_row w4 _ _
      have f5 : Fr noB w4 (w4.alloc (.cells (madeCells #[Value.string ⟨#[]⟩] k) 9)) := (Fr.refl noB _).alloc _
      have hv2' := hv2'.fr f5 (fun _ _ _ => id)
      have h5 := h4.fr f5 (fun _ _ _ => id)
      have z5 : (w4.alloc (.cells (madeCells #[Value.string ⟨#[]⟩] k) 9)).heap.size = w4.heap.size + 1 := by simp
      clear mk2
      generalize w4.alloc (.cells (madeCells #[Value.string ⟨#[]⟩] k) 9) = w5 at *
      refine (row_calls_any w5 (eqB (p + 1)) (p + 1) [] _ k k (List.replicate k ⟨#[]⟩) hv2' hr5 (by simp) (Nat.le_refl _) (by omega) (fun _ a e h => by cases e; unfold eqB at h; simp only [] at h; omega) (by rw [sumSz_empty]; simp; omega)).mono ?_
      rintro e w6 ⟨rfl, h6, f6⟩
      rw [List.nil_append] at h6
      have h5 := h5.fr f6 (fun b hb1 hb2 hb3 => by rcases hb2 with h | h <;> unfold eqB at * <;> omega)
      have z6 := f6.size
      clear hr5 hv2'
      obtain ⟨T, HT⟩ : ∃ T, Hid (T = mkS ((List.replicate k c).take 65535)) := ⟨_, rfl⟩
      obtain ⟨n, HNN⟩ : ∃ n, Hid (n = 2 + 2 * min k 65535) := ⟨_, rfl⟩
      have HLL : Hid ((rowB (List.replicate k ⟨#[]⟩)).length = n) := by unfold Hid; rw [rowB_empty, HNN.out]
      have HRT : Hid (rText ⟨textB (mkS (List.replicate k c)), 0⟩ 65535 = (⟨[], 0⟩, T.data.toList)) := by unfold Hid; rw [rText_long, HT.out]; rfl
      have HTL : Hid (T.data.toList.length = min k 65535) := by unfold Hid; rw [HT.out, mkS_data]; simp [Nat.min_comm]
      have htl : (textB (mkS (List.replicate k c))).length ≤ 70002 := by have := textB_length (mkS (List.replicate k c)); rw [HSS.out] at this; omega
      have HTB := hid htl; clear htl
      have hrow : ∀ W, Fr (fun b => p ≤ b) w3 W → ∀ K, Hid (min k 65535 = K) → (convert 30 9 (.slice (some ⟨bb, 0, none⟩) K k)).run Try.prog W = .ok (.string T) W := fun W f K hK => by
        have h := ((hb.row.fr0 g3).fr f (fun a e _ _ h => by cases e; exact absurd h (by simp only []; omega)))
        have h2 : RowAt W (some ⟨bb, 0, none⟩) (bcells ((List.replicate k c).take 65535)) := fun j u hu => h j u (by
          simp only [bcells, List.map_take, List.getElem?_take] at hu ⊢
          split at hu
          · exact hu
          · cases hu)
        rw [HT.out]
        exact Try.toStr h2 (by rw [← hK.out]; simp [Nat.min_comm]) k
      have f36 : Fr (fun b => p ≤ b) w3 w6 := (f4.mono fun b _ h => by unfold eqB at h; omega).then' ((f5.mono fun _ _ h => h.elim).then' (f6.mono fun b _ h => by unfold eqB at h; omega))
      have hfin : ∀ W, Fr (fun b => p ≤ b) w3 W → Fr noB w W := fun W f => (f3.then' (f.mono fun b _ h => Nat.le_trans hz0 h)).none
      clear hb hcv hcv4 f4 f5 f6 f3 g3
      generalize hts : textB (mkS (List.replicate k c)) = ts at *
      clear hts
      generalize hrb : rowB (List.replicate k ⟨#[]⟩) = rb at *
      clear hrb
      rcases Nat.lt_or_ge 65535 k with h65 | h65
      · have HMIN : Hid (min k 65535 = 65535) := by unfold Hid; omega
        go_wp2_with fail
        refine (bytes_calls w6 (andNew (eqB p) w3) p ts h5 (by have := HTB.out; omega)).mono ?_
        rintro e w7 ⟨B, d, rfl, r1, r2⟩
        have r3 := own_row r1
        have r4 : B = none → ts.length = 0 ∧ d = 0 := fun e => by
          subst e
          rcases r1.2 with ⟨e, _⟩ | ⟨g, cap, cur, e, _⟩
          · injection e with _ h1 h2; exact ⟨h1, h2⟩
          · injection e with h; cases h
        have h7 := h6.fr r2 (fun _ _ _ => id)
        have f7 : Fr (fun b => p ≤ b) w3 w7 := f36.then' (r2.mono fun _ _ h => h.elim)
        clear r1 h6 h5
        generalize hbl2 : ts.length = bl at *
        have HBL := hid hbl2; clear hbl2
        go_wp2_with fail
        refine (of_calls w7 B bl d ts r3 HBL.out r4 (by have := HTB.out; omega)).mono ?_
        rintro e w8 ⟨q, rfl, q1, q2, q3, q4⟩
        have h8 := h7.fr q4 (fun _ _ _ => id)
        have f8 : Fr (fun b => p ≤ b) w3 w8 := f7.then' (q4.mono fun _ _ h => h.elim)
        obtain ⟨U, hU⟩ : ∃ U, U = cutB (upB w7.heap.size) w8 := ⟨_, rfl⟩
        have z7 := r2.size
        have hU1 : ∀ b, U b → w7.heap.size ≤ b := fun b hb => by subst hU; exact hb.1
        have q5 : RdAt w8 U q ⟨ts, 0⟩ := by subst hU; exact q3.cut
        have h8 : WrAt w8 (cutB (andNew (eqB (p + 1)) w5) w7) (p + 1) rb := (h7.cut.fr q4 (fun _ _ _ => id))
        have hv8 : ∀ W, Fr U w8 W → WrAt W (cutB (andNew (eqB (p + 1)) w5) w7) (p + 1) rb := fun W f => h8.fr f (fun b _ hb1 hb2 => by have := hU1 b hb2; have := hb1.2; omega)
        have hfU : ∀ W, Fr U w8 W → Fr (fun b => p ≤ b) w3 W := fun W f => f8.then' (f.mono fun b _ hb => by have := hU1 b hb; omega)
        clear hU q3 q4 r3 r4 r2 h7 f7 f36
        go_wp2_with fail
        refine wp_region_calm (R := Fr U) (C := LongC U q w8 ts) [false, true, false, false, false, false, false, false, false, true, false, false, false, false, false, false, false, false, false, false, false, false]
          [eqv (.pointer (some ⟨q, 0, none⟩)), eqv (.string T), eqv (.slice (some ⟨bb, 0, none⟩) k k), eqv (.int .i64 65535), eqv (.slice (some ⟨bb, 0, none⟩) 65535 k), eqv (.string T), eqv (.bool true), eqv (.bool true), eqv (.pointer (some ⟨q, 0, none⟩)), eqv (.int .i64 0), eqv (.bool true), eqv (.bool true), eqv (.bool true), eqv (.pointer (some ⟨p + 1, 0, none⟩)), LenV U n, eqv (.int .i64 n), eqv (.int .i64 65535), eqv (.int .i64 (131070)), eqv (.int .i64 (131072)), eqv (.bool true), eqv (.bool true), eqv (.bool true)]
          (by kernel_rfl) (by kernel_rfl) (fun _ _ _ h1 h2 => h1.then' h2) ((Fr.refl _ _).drew) ⟨(Fr.refl _ _).drew, q5.fr ((Fr.refl noB _).drew) (fun _ _ _ => id)⟩ (by kernel_rfl) ?_ ?_
        · refine ⟨?_, ?_, ?_, ?_, ?_, ?_, ?_, ?_, ?_, ?_, ?_, ?_, ?_, ?_, ?_, ?_, ?_, ?_, ?_, ?_, ?_, ?_, trivial⟩
          · rw [if_neg (by decide)]; intro kq
            exact calm_mv 11 rfl rfl (Or.inl rfl) (Fr.refl _) (by decide) fun v w hd => hd
          · rw [if_pos (by decide)]
            intro a W K hC hd hK
            replace hC : (LongC U q w8 ts) 0 W := hC
            have d47 : a.tmps[47]?.getD undef = .pointer (some ⟨q, 0, none⟩) := hd 47 (by decide)
            refine wpOp_plain rfl rfl ?_
            have hcl := textRd_calls W U q ⟨ts, 0⟩ 65535 hC.2 (by omega) (by omega)
            rw [show rText ⟨ts, 0⟩ 65535 = _ from HRT.out] at hcl
            go_wp2_with fail
            refine hcl.mono ?_
            rintro e w' ⟨rfl, h1, f1⟩
            exact hK _ _ f1 ⟨hC.1.then' f1, h1⟩ (by show _ = _; (try simp only []); rw [mkS_of])
          · rw [if_neg (by decide)]; intro kq
            exact calm_mv 6 rfl rfl (Or.inl rfl) (Fr.refl _) (by decide) fun v w hd => hd
          · rw [if_neg (by decide)]; intro kq
            exact calm_mv 10 rfl rfl (Or.inl rfl) (Fr.refl _) (by decide) fun v w hd => hd
          · rw [if_neg (by decide)]; intro kq
            intro a W K hC hd hK
            have d49 : a.tmps[49]?.getD undef = .slice (some ⟨bb, 0, none⟩) k k := hd 49 (by decide)
            have d50 : a.tmps[50]?.getD undef = .int .i64 65535 := hd 50 (by decide)
            refine wpOp_plain rfl rfl ?_
            go_wp2_with fail
            exact hK _ _ (Fr.refl _ _) hC rfl
          · rw [if_neg (by decide)]; intro kq
            intro a W K hC hd hK
            have d51 : a.tmps[51]?.getD undef = .slice (some ⟨bb, 0, none⟩) 65535 k := hd 51 (by decide)
            refine wpOp_plain rfl rfl ?_
            have hcv := hrow W (hfU W hC.1) _ HMIN
            go_wp2_with fail
            exact hK _ _ (Fr.refl _ _) hC rfl
          · rw [if_neg (by decide)]; intro kq
            intro a W K hC hd hK
            have d48 : a.tmps[48]?.getD undef = .string T := hd 48 (by decide)
            have d52 : a.tmps[52]?.getD undef = .string T := hd 52 (by decide)
            refine wpOp_plain rfl rfl ?_
            have hself : (T.toList == T.toList) = true := by simp
            go_wp2_with fail
            exact hK _ _ (Fr.refl _ _) hC (by show _ = _; simp)
          · rw [if_neg (by decide)]; intro kq
            exact calm_mv 53 rfl rfl (Or.inl rfl) (Fr.refl _) (by decide) fun v w hd => hd
          · rw [if_neg (by decide)]; intro kq
            intro a W K hC hd hK
            have d11 : a.tmps[11]?.getD undef = .pointer (some ⟨q, 0, none⟩) := hd 11 (by decide)
            have d54 : a.tmps[54]?.getD undef = .bool true := hd 54 (by decide)
            refine wpOp_want rfl (wanted_of (want := true) (b := true) rfl rfl (by rw [eval_get]; exact d54)) ?_
            go_wp2_with fail
            exact hK _ _ (Fr.refl _ _) hC rfl
          · rw [if_pos (by decide)]
            intro a W K hC hd hK
            replace hC : (LongC U q w8 ts) 1 W := hC
            have d55 : a.tmps[55]?.getD undef = .pointer (some ⟨q, 0, none⟩) := hd 55 (by decide)
            have d54 : a.tmps[54]?.getD undef = .bool true := hd 54 (by decide)
            refine wpOp_want rfl (wanted_of (want := true) (b := true) rfl rfl (by rw [eval_get]; exact d54)) ?_
            have hend := endRd_calls W U q ⟨[], 0⟩ hC.2
            rw [show rEnd ⟨[], 0⟩ = 0 from rfl] at hend
            go_wp2_with fail
            refine hend.mono ?_
            rintro e w9 ⟨rfl, rfl⟩
            exact hK _ _ (Fr.refl _ _) hC rfl
          · rw [if_neg (by decide)]; intro kq
            intro a W K hC hd hK
            have d56 : a.tmps[56]?.getD undef = .int .i64 0 := hd 56 (by decide)
            have d54 : a.tmps[54]?.getD undef = .bool true := hd 54 (by decide)
            refine wpOp_want rfl (wanted_of (want := true) (b := true) rfl rfl (by rw [eval_get]; exact d54)) ?_
            go_wp2_with fail
            exact hK _ _ (Fr.refl _ _) hC rfl
          · rw [if_neg (by decide)]; intro kq
            intro a W K hC hd hK
            have d54 : a.tmps[54]?.getD undef = .bool true := hd 54 (by decide)
            have d57 : a.tmps[57]?.getD undef = .bool true := hd 57 (by decide)
            refine wpOp_plain rfl rfl ?_
            go_wp2_with fail
            exact hK _ _ (Fr.refl _ _) hC rfl
          · rw [if_neg (by decide)]; intro kq
            exact calm_mv 58 rfl rfl (Or.inl rfl) (Fr.refl _) (by decide) fun v w hd => hd
          · rw [if_neg (by decide)]; intro kq
            intro a W K hC hd hK
            have d9 : a.tmps[9]?.getD undef = .pointer (some ⟨p + 1, 0, none⟩) := hd 9 (by decide)
            have d59 : a.tmps[59]?.getD undef = .bool true := hd 59 (by decide)
            refine wpOp_want rfl (wanted_of (want := true) (b := true) rfl rfl (by rw [eval_get]; exact d59)) ?_
            go_wp2_with fail
            exact hK _ _ (Fr.refl _ _) hC rfl
          · rw [if_neg (by decide)]; intro kq
            intro a W K hC hd hK
            have d60 : a.tmps[60]?.getD undef = .pointer (some ⟨p + 1, 0, none⟩) := hd 60 (by decide)
            have d59 : a.tmps[59]?.getD undef = .bool true := hd 59 (by decide)
            refine wpOp_want rfl (wanted_of (want := true) (b := true) rfl rfl (by rw [eval_get]; exact d59)) ?_
            have hbc := bytes_calls W _ (p + 1) rb (hv8 W hC.1) (by rw [HLL.out]; have := HNN.out; omega)
            rw [HLL.out] at hbc
            go_wp2_with fail
            refine hbc.mono ?_
            rintro e w9 ⟨A4, c4, rfl, hr4, f4⟩
            exact hK _ _ (f4.mono fun _ _ h => h.elim) ⟨hC.1.then' (f4.mono fun _ _ h => h.elim), hC.2.fr f4 (fun _ _ _ => id)⟩ ⟨A4, c4, rfl⟩
          · rw [if_neg (by decide)]; intro kq
            intro a W K hC hd hK
            have d61 : (LenV U n).V (a.tmps[61]?.getD undef) W := hd 61 (by decide)
            have d59 : a.tmps[59]?.getD undef = .bool true := hd 59 (by decide)
            refine wpOp_want rfl (wanted_of (want := true) (b := true) rfl rfl (by rw [eval_get]; exact d59)) ?_
            obtain ⟨A4, c4, e4⟩ := d61
            go_wp2_with fail
            exact hK _ _ (Fr.refl _ _) hC rfl
          · rw [if_neg (by decide)]; intro kq
            intro a W K hC hd hK
            have d10 : a.tmps[10]?.getD undef = .int .i64 65535 := hd 10 (by decide)
            have d59 : a.tmps[59]?.getD undef = .bool true := hd 59 (by decide)
            refine wpOp_want rfl (wanted_of (want := true) (b := true) rfl rfl (by rw [eval_get]; exact d59)) ?_
            go_wp2_with fail
            exact hK _ _ (Fr.refl _ _) hC rfl
          · rw [if_neg (by decide)]; intro kq
            intro a W K hC hd hK
            have d63 : a.tmps[63]?.getD undef = .int .i64 65535 := hd 63 (by decide)
            have d59 : a.tmps[59]?.getD undef = .bool true := hd 59 (by decide)
            refine wpOp_want rfl (wanted_of (want := true) (b := true) rfl rfl (by rw [eval_get]; exact d59)) ?_
            go_wp2_with fail
            exact hK _ _ (Fr.refl _ _) hC rfl
          · rw [if_neg (by decide)]; intro kq
            intro a W K hC hd hK
            have d64 : a.tmps[64]?.getD undef = .int .i64 (131070) := hd 64 (by decide)
            have d59 : a.tmps[59]?.getD undef = .bool true := hd 59 (by decide)
            refine wpOp_want rfl (wanted_of (want := true) (b := true) rfl rfl (by rw [eval_get]; exact d59)) ?_
            go_wp2_with fail
            exact hK _ _ (Fr.refl _ _) hC rfl
          · rw [if_neg (by decide)]; intro kq
            intro a W K hC hd hK
            have d62 : a.tmps[62]?.getD undef = .int .i64 n := hd 62 (by decide)
            have d65 : a.tmps[65]?.getD undef = .int .i64 (131072) := hd 65 (by decide)
            have d59 : a.tmps[59]?.getD undef = .bool true := hd 59 (by decide)
            refine wpOp_want rfl (wanted_of (want := true) (b := true) rfl rfl (by rw [eval_get]; exact d59)) ?_
            have heq : ((n : Int) == 131072) = true := by rw [beq_iff_eq]; have := HNN.out; omega
            go_wp2_with fail
            exact hK _ _ (Fr.refl _ _) hC (by first | rfl | (show _ = _; simp))
          · rw [if_neg (by decide)]; intro kq
            intro a W K hC hd hK
            have d59 : a.tmps[59]?.getD undef = .bool true := hd 59 (by decide)
            have d66 : a.tmps[66]?.getD undef = .bool true := hd 66 (by decide)
            refine wpOp_plain rfl rfl ?_
            go_wp2_with fail
            exact hK _ _ (Fr.refl _ _) hC rfl
          · rw [if_neg (by decide)]; intro kq
            exact calm_mv 67 rfl rfl (Or.inr rfl) (Fr.refl _) (by decide) fun v w hd => hd
        · intro vs w9 fw9 cw9 hV
          have v4 : vs 21 = .bool true := hV 21 _ _ rfl rfl (by decide)
          clear hV
          simp only [putL, Act.put, List.setIfInBounds_toArray, List.set_cons_zero, List.set_cons_succ, v4]
          go_wp2_with fail
          go_ret
          exact ⟨rfl, hfin _ (hfU _ fw9)⟩
      · have HMIN : Hid (min k 65535 = k) := by unfold Hid; omega
        go_wp2_with fail
        refine (bytes_calls w6 (andNew (eqB p) w3) p ts h5 (by have := HTB.out; omega)).mono ?_
        rintro e w7 ⟨B, d, rfl, r1, r2⟩
        have r3 := own_row r1
        have r4 : B = none → ts.length = 0 ∧ d = 0 := fun e => by
          subst e
          rcases r1.2 with ⟨e, _⟩ | ⟨g, cap, cur, e, _⟩
          · injection e with _ h1 h2; exact ⟨h1, h2⟩
          · injection e with h; cases h
        have h7 := h6.fr r2 (fun _ _ _ => id)
        have f7 : Fr (fun b => p ≤ b) w3 w7 := f36.then' (r2.mono fun _ _ h => h.elim)
        clear r1 h6 h5
        generalize hbl2 : ts.length = bl at *
        have HBL := hid hbl2; clear hbl2
        go_wp2_with fail
        refine (of_calls w7 B bl d ts r3 HBL.out r4 (by have := HTB.out; omega)).mono ?_
        rintro e w8 ⟨q, rfl, q1, q2, q3, q4⟩
        have h8 := h7.fr q4 (fun _ _ _ => id)
        have f8 : Fr (fun b => p ≤ b) w3 w8 := f7.then' (q4.mono fun _ _ h => h.elim)
        obtain ⟨U, hU⟩ : ∃ U, U = cutB (upB w7.heap.size) w8 := ⟨_, rfl⟩
        have z7 := r2.size
        have hU1 : ∀ b, U b → w7.heap.size ≤ b := fun b hb => by subst hU; exact hb.1
        have q5 : RdAt w8 U q ⟨ts, 0⟩ := by subst hU; exact q3.cut
        have h8 : WrAt w8 (cutB (andNew (eqB (p + 1)) w5) w7) (p + 1) rb := (h7.cut.fr q4 (fun _ _ _ => id))
        have hv8 : ∀ W, Fr U w8 W → WrAt W (cutB (andNew (eqB (p + 1)) w5) w7) (p + 1) rb := fun W f => h8.fr f (fun b _ hb1 hb2 => by have := hU1 b hb2; have := hb1.2; omega)
        have hfU : ∀ W, Fr U w8 W → Fr (fun b => p ≤ b) w3 W := fun W f => f8.then' (f.mono fun b _ hb => by have := hU1 b hb; omega)
        clear hU q3 q4 r3 r4 r2 h7 f7 f36
        go_wp2_with fail
        refine wp_region_calm (R := Fr U) (C := LongC U q w8 ts) [false, true, false, false, false, false, false, false, false, true, false, false, false, false, false, false, false, false, false, false, false, false]
          [eqv (.pointer (some ⟨q, 0, none⟩)), eqv (.string T), eqv (.slice (some ⟨bb, 0, none⟩) k k), eqv (.int .i64 k), eqv (.slice (some ⟨bb, 0, none⟩) k k), eqv (.string T), eqv (.bool true), eqv (.bool true), eqv (.pointer (some ⟨q, 0, none⟩)), eqv (.int .i64 0), eqv (.bool true), eqv (.bool true), eqv (.bool true), eqv (.pointer (some ⟨p + 1, 0, none⟩)), LenV U n, eqv (.int .i64 n), eqv (.int .i64 k), eqv (.int .i64 (2 * (k : Int))), eqv (.int .i64 (2 + 2 * (k : Int))), eqv (.bool true), eqv (.bool true), eqv (.bool true)]
          (by kernel_rfl) (by kernel_rfl) (fun _ _ _ h1 h2 => h1.then' h2) ((Fr.refl _ _).drew) ⟨(Fr.refl _ _).drew, q5.fr ((Fr.refl noB _).drew) (fun _ _ _ => id)⟩ (by kernel_rfl) ?_ ?_
        · refine ⟨?_, ?_, ?_, ?_, ?_, ?_, ?_, ?_, ?_, ?_, ?_, ?_, ?_, ?_, ?_, ?_, ?_, ?_, ?_, ?_, ?_, ?_, trivial⟩
          · rw [if_neg (by decide)]; intro kq
            exact calm_mv 11 rfl rfl (Or.inl rfl) (Fr.refl _) (by decide) fun v w hd => hd
          · rw [if_pos (by decide)]
            intro a W K hC hd hK
            replace hC : (LongC U q w8 ts) 0 W := hC
            have d47 : a.tmps[47]?.getD undef = .pointer (some ⟨q, 0, none⟩) := hd 47 (by decide)
            refine wpOp_plain rfl rfl ?_
            have hcl := textRd_calls W U q ⟨ts, 0⟩ 65535 hC.2 (by omega) (by omega)
            rw [show rText ⟨ts, 0⟩ 65535 = _ from HRT.out] at hcl
            go_wp2_with fail
            refine hcl.mono ?_
            rintro e w' ⟨rfl, h1, f1⟩
            exact hK _ _ f1 ⟨hC.1.then' f1, h1⟩ (by show _ = _; (try simp only []); rw [mkS_of])
          · rw [if_neg (by decide)]; intro kq
            exact calm_mv 6 rfl rfl (Or.inl rfl) (Fr.refl _) (by decide) fun v w hd => hd
          · rw [if_neg (by decide)]; intro kq
            exact calm_mv 10 rfl rfl (Or.inl rfl) (Fr.refl _) (by decide) fun v w hd => hd
          · rw [if_neg (by decide)]; intro kq
            intro a W K hC hd hK
            have d49 : a.tmps[49]?.getD undef = .slice (some ⟨bb, 0, none⟩) k k := hd 49 (by decide)
            have d50 : a.tmps[50]?.getD undef = .int .i64 k := hd 50 (by decide)
            refine wpOp_plain rfl rfl ?_
            go_wp2_with fail
            exact hK _ _ (Fr.refl _ _) hC rfl
          · rw [if_neg (by decide)]; intro kq
            intro a W K hC hd hK
            have d51 : a.tmps[51]?.getD undef = .slice (some ⟨bb, 0, none⟩) k k := hd 51 (by decide)
            refine wpOp_plain rfl rfl ?_
            have hcv := hrow W (hfU W hC.1) _ HMIN
            go_wp2_with fail
            exact hK _ _ (Fr.refl _ _) hC rfl
          · rw [if_neg (by decide)]; intro kq
            intro a W K hC hd hK
            have d48 : a.tmps[48]?.getD undef = .string T := hd 48 (by decide)
            have d52 : a.tmps[52]?.getD undef = .string T := hd 52 (by decide)
            refine wpOp_plain rfl rfl ?_
            have hself : (T.toList == T.toList) = true := by simp
            go_wp2_with fail
            exact hK _ _ (Fr.refl _ _) hC (by show _ = _; simp)
          · rw [if_neg (by decide)]; intro kq
            exact calm_mv 53 rfl rfl (Or.inl rfl) (Fr.refl _) (by decide) fun v w hd => hd
          · rw [if_neg (by decide)]; intro kq
            intro a W K hC hd hK
            have d11 : a.tmps[11]?.getD undef = .pointer (some ⟨q, 0, none⟩) := hd 11 (by decide)
            have d54 : a.tmps[54]?.getD undef = .bool true := hd 54 (by decide)
            refine wpOp_want rfl (wanted_of (want := true) (b := true) rfl rfl (by rw [eval_get]; exact d54)) ?_
            go_wp2_with fail
            exact hK _ _ (Fr.refl _ _) hC rfl
          · rw [if_pos (by decide)]
            intro a W K hC hd hK
            replace hC : (LongC U q w8 ts) 1 W := hC
            have d55 : a.tmps[55]?.getD undef = .pointer (some ⟨q, 0, none⟩) := hd 55 (by decide)
            have d54 : a.tmps[54]?.getD undef = .bool true := hd 54 (by decide)
            refine wpOp_want rfl (wanted_of (want := true) (b := true) rfl rfl (by rw [eval_get]; exact d54)) ?_
            have hend := endRd_calls W U q ⟨[], 0⟩ hC.2
            rw [show rEnd ⟨[], 0⟩ = 0 from rfl] at hend
            go_wp2_with fail
            refine hend.mono ?_
            rintro e w9 ⟨rfl, rfl⟩
            exact hK _ _ (Fr.refl _ _) hC rfl
          · rw [if_neg (by decide)]; intro kq
            intro a W K hC hd hK
            have d56 : a.tmps[56]?.getD undef = .int .i64 0 := hd 56 (by decide)
            have d54 : a.tmps[54]?.getD undef = .bool true := hd 54 (by decide)
            refine wpOp_want rfl (wanted_of (want := true) (b := true) rfl rfl (by rw [eval_get]; exact d54)) ?_
            go_wp2_with fail
            exact hK _ _ (Fr.refl _ _) hC rfl
          · rw [if_neg (by decide)]; intro kq
            intro a W K hC hd hK
            have d54 : a.tmps[54]?.getD undef = .bool true := hd 54 (by decide)
            have d57 : a.tmps[57]?.getD undef = .bool true := hd 57 (by decide)
            refine wpOp_plain rfl rfl ?_
            go_wp2_with fail
            exact hK _ _ (Fr.refl _ _) hC rfl
          · rw [if_neg (by decide)]; intro kq
            exact calm_mv 58 rfl rfl (Or.inl rfl) (Fr.refl _) (by decide) fun v w hd => hd
          · rw [if_neg (by decide)]; intro kq
            intro a W K hC hd hK
            have d9 : a.tmps[9]?.getD undef = .pointer (some ⟨p + 1, 0, none⟩) := hd 9 (by decide)
            have d59 : a.tmps[59]?.getD undef = .bool true := hd 59 (by decide)
            refine wpOp_want rfl (wanted_of (want := true) (b := true) rfl rfl (by rw [eval_get]; exact d59)) ?_
            go_wp2_with fail
            exact hK _ _ (Fr.refl _ _) hC rfl
          · rw [if_neg (by decide)]; intro kq
            intro a W K hC hd hK
            have d60 : a.tmps[60]?.getD undef = .pointer (some ⟨p + 1, 0, none⟩) := hd 60 (by decide)
            have d59 : a.tmps[59]?.getD undef = .bool true := hd 59 (by decide)
            refine wpOp_want rfl (wanted_of (want := true) (b := true) rfl rfl (by rw [eval_get]; exact d59)) ?_
            have hbc := bytes_calls W _ (p + 1) rb (hv8 W hC.1) (by rw [HLL.out]; have := HNN.out; omega)
            rw [HLL.out] at hbc
            go_wp2_with fail
            refine hbc.mono ?_
            rintro e w9 ⟨A4, c4, rfl, hr4, f4⟩
            exact hK _ _ (f4.mono fun _ _ h => h.elim) ⟨hC.1.then' (f4.mono fun _ _ h => h.elim), hC.2.fr f4 (fun _ _ _ => id)⟩ ⟨A4, c4, rfl⟩
          · rw [if_neg (by decide)]; intro kq
            intro a W K hC hd hK
            have d61 : (LenV U n).V (a.tmps[61]?.getD undef) W := hd 61 (by decide)
            have d59 : a.tmps[59]?.getD undef = .bool true := hd 59 (by decide)
            refine wpOp_want rfl (wanted_of (want := true) (b := true) rfl rfl (by rw [eval_get]; exact d59)) ?_
            obtain ⟨A4, c4, e4⟩ := d61
            go_wp2_with fail
            exact hK _ _ (Fr.refl _ _) hC rfl
          · rw [if_neg (by decide)]; intro kq
            intro a W K hC hd hK
            have d10 : a.tmps[10]?.getD undef = .int .i64 k := hd 10 (by decide)
            have d59 : a.tmps[59]?.getD undef = .bool true := hd 59 (by decide)
            refine wpOp_want rfl (wanted_of (want := true) (b := true) rfl rfl (by rw [eval_get]; exact d59)) ?_
            go_wp2_with fail
            exact hK _ _ (Fr.refl _ _) hC rfl
          · rw [if_neg (by decide)]; intro kq
            intro a W K hC hd hK
            have d63 : a.tmps[63]?.getD undef = .int .i64 k := hd 63 (by decide)
            have d59 : a.tmps[59]?.getD undef = .bool true := hd 59 (by decide)
            refine wpOp_want rfl (wanted_of (want := true) (b := true) rfl rfl (by rw [eval_get]; exact d59)) ?_
            go_wp2_with fail
            exact hK _ _ (Fr.refl _ _) hC rfl
          · rw [if_neg (by decide)]; intro kq
            intro a W K hC hd hK
            have d64 : a.tmps[64]?.getD undef = .int .i64 (2 * (k : Int)) := hd 64 (by decide)
            have d59 : a.tmps[59]?.getD undef = .bool true := hd 59 (by decide)
            refine wpOp_want rfl (wanted_of (want := true) (b := true) rfl rfl (by rw [eval_get]; exact d59)) ?_
            go_wp2_with fail
            exact hK _ _ (Fr.refl _ _) hC rfl
          · rw [if_neg (by decide)]; intro kq
            intro a W K hC hd hK
            have d62 : a.tmps[62]?.getD undef = .int .i64 n := hd 62 (by decide)
            have d65 : a.tmps[65]?.getD undef = .int .i64 (2 + 2 * (k : Int)) := hd 65 (by decide)
            have d59 : a.tmps[59]?.getD undef = .bool true := hd 59 (by decide)
            refine wpOp_want rfl (wanted_of (want := true) (b := true) rfl rfl (by rw [eval_get]; exact d59)) ?_
            have heq : ((n : Int) == 2 + 2 * (k : Int)) = true := by rw [beq_iff_eq]; have := HNN.out; omega
            go_wp2_with fail
            exact hK _ _ (Fr.refl _ _) hC (by first | rfl | (show _ = _; simp))
          · rw [if_neg (by decide)]; intro kq
            intro a W K hC hd hK
            have d59 : a.tmps[59]?.getD undef = .bool true := hd 59 (by decide)
            have d66 : a.tmps[66]?.getD undef = .bool true := hd 66 (by decide)
            refine wpOp_plain rfl rfl ?_
            go_wp2_with fail
            exact hK _ _ (Fr.refl _ _) hC rfl
          · rw [if_neg (by decide)]; intro kq
            exact calm_mv 67 rfl rfl (Or.inr rfl) (Fr.refl _) (by decide) fun v w hd => hd
        · intro vs w9 fw9 cw9 hV
          have v4 : vs 21 = .bool true := hV 21 _ _ rfl rfl (by decide)
          clear hV
          simp only [putL, Act.put, List.setIfInBounds_toArray, List.set_cons_zero, List.set_cons_succ, v4]
          go_wp2_with fail
          go_ret
          exact ⟨rfl, hfin _ (hfU _ fw9)⟩
theorem long_law (w : World) (a0 : Int) (w0 : (Lit.int .u8 a0).wf = true) (a1 : Int) (w1 : (Lit.int .u8 a1).wf = true) :
    Calls Try.prog 6 #[.int .u8 a0, .int .u8 a1] w (BoolPost w true) := by
  obtain ⟨u0, u1⟩ := u8_nat w0
  obtain ⟨u2, u3⟩ := u8_nat w1
  obtain ⟨n0, rfl⟩ := Int.eq_ofNat_of_zero_le u0
  obtain ⟨n1, rfl⟩ := Int.eq_ofNat_of_zero_le u2
  exact long_walk w n0 n1 (by omega) (by omega)
end Go.Proofs.Ytcpcmcdfncjnaaa
