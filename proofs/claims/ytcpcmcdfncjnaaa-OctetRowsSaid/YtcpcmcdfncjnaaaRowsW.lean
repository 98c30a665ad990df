/- interrexlaw01.OctetRows: the walk. -/
import Derived.Test.YtcpcmcdfncjnaaaSame
import Derived.Test.YtcpcmcdfncjnaaaLives1
import Derived.Test.YtcpcmcdfncjnaaaCalm
namespace Go.Proofs.Ytcpcmcdfncjnaaa
open Go.RowKit

def BytesV (bs : List UInt8) : Stb (Fr noB) := ⟨fun v w => ∃ A n c, v = .slice A n c ∧ bs.length = n ∧ RowAt w A (bcells bs), fun _ _ _ ⟨A, n, c, e, hn, h⟩ f => ⟨A, n, c, e, hn, h.fr0 f⟩⟩

theorem new_row (w : World) (C : Array Value) (t : TypeId) : RowAt (w.alloc (.cells C t)) (some ⟨w.heap.size, 0, none⟩) C.toList := fun j u hu => by
  refine ⟨_, rfl, ?_⟩
  have e : (⟨w.heap.size, 0, none⟩ : Addr).add j = ⟨w.heap.size, j, none⟩ := by unfold Addr.add; split <;> simp_all
  rw [e, cell_of_row _ _ _ _ _ _ (heap_alloc_new w _)]
  simpa using hu

def okL (l : List ByteArray) : Bool := decide (l.length ≤ 10) && l.all fun s => decide (s.size ≤ 50)
def lItem (A : Option Addr) (c : Nat) (l : List ByteArray) : Item := ⟨0, 0, false, ⟨#[]⟩, A, c, l, 0, 0, 0⟩
theorem few_two (A B : Option Addr) (c d : Nat) (l m : List ByteArray) : fewB [lItem A c l, lItem B d m] = (okL l && okL m) := by
  simp only [fewB, List.all_cons, List.all_nil, Item.ok, lItem, okL]
  have : (⟨#[]⟩ : ByteArray).size ≤ 100 := by decide
  simp [this]

theorem rowB_length (l : List ByteArray) : (rowB l).length ≤ sumSz l + 2 := by
  unfold rowB
  have := rows_length (l.take 65535)
  have := sumSz_take_le l 65535
  rw [List.length_append, leB_length]; omega
/-! The pure part: bytes of texts and of rows tell them. -/
theorem leB2_inj {a b : Nat} (ha : a < 65536) (hb : b < 65536) (h : leB 2 a = leB 2 b) : a = b := by
  simp only [leB, List.cons.injEq, and_true] at h
  obtain ⟨h1, h2⟩ := h
  have e1 := congrArg UInt8.toNat h1
  have e2 := congrArg UInt8.toNat h2
  simp only [UInt8.toNat_ofNat'] at e1 e2
  omega
theorem textB_split {s t : ByteArray} {x y : List UInt8} (hs : s.size ≤ 65535) (ht : t.size ≤ 65535) (h : textB s ++ x = textB t ++ y) : s = t ∧ x = y := by
  unfold textB at h
  rw [Nat.min_eq_left hs, Nat.min_eq_left ht, List.take_of_length_le (by simpa using hs), List.take_of_length_le (by simpa using ht), List.append_assoc, List.append_assoc] at h
  obtain ⟨h1, h2⟩ := List.append_inj h (by rw [leB_length, leB_length])
  have hsz := leB2_inj (by omega) (by omega) h1
  obtain ⟨h3, h4⟩ := List.append_inj h2 (by simpa using hsz)
  exact ⟨ByteArray.ext (Array.ext' h3), h4⟩
theorem textB_beq {s t : ByteArray} (hs : s.size ≤ 65535) (ht : t.size ≤ 65535) : (textB s == textB t) = decide (s = t) := by
  rw [Bool.eq_iff_iff, beq_iff_eq, decide_eq_true_iff]
  exact ⟨fun h => (textB_split (x := []) (y := []) hs ht (by rw [h])).1, fun h => by rw [h]⟩
theorem rows_inj : ∀ (l m : List ByteArray), (∀ s ∈ l, s.size ≤ 65535) → (∀ s ∈ m, s.size ≤ 65535) → l.length = m.length → l.flatMap textB = m.flatMap textB → l = m
  | [], [], _, _, _, _ => rfl
  | s :: l, t :: m, h1, h2, hl, h => by
    simp only [List.flatMap_cons] at h
    obtain ⟨e1, e2⟩ := textB_split (h1 s (List.mem_cons_self ..)) (h2 t (List.mem_cons_self ..)) h
    rw [e1, rows_inj l m (fun s hs => h1 s (List.mem_cons_of_mem _ hs)) (fun s hs => h2 s (List.mem_cons_of_mem _ hs)) (by simpa using hl) e2]
  | [], _ :: _, _, _, hl, _ => by simp at hl
  | _ :: _, [], _, _, hl, _ => by simp at hl
theorem okL_spec {l : List ByteArray} (h : okL l = true) : l.length ≤ 10 ∧ ∀ s ∈ l, s.size ≤ 50 := by
  simpa [okL] using h
theorem rowB_beq {l m : List ByteArray} (h1 : okL l = true) (h2 : okL m = true) : (rowB l == rowB m) = decide (l = m) := by
  obtain ⟨a1, a2⟩ := okL_spec h1
  obtain ⟨b1, b2⟩ := okL_spec h2
  rw [Bool.eq_iff_iff, beq_iff_eq, decide_eq_true_iff]
  refine ⟨fun h => ?_, fun h => by rw [h]⟩
  unfold rowB at h
  rw [Nat.min_eq_left (by omega), Nat.min_eq_left (by omega), List.take_of_length_le (by omega), List.take_of_length_le (by omega)] at h
  obtain ⟨h3, h4⟩ := List.append_inj h (by rw [leB_length, leB_length])
  exact rows_inj l m (fun s hs => by have := a2 s hs; omega) (fun s hs => by have := b2 s hs; omega) (leB2_inj (by omega) (by omega) h3) h4
def eqB (n : Nat) : Nat → Prop := fun k => k = n
theorem WrAt.new1 (w : World) (T : Nat) (hT : T ≠ 5) : WrAt (w.alloc (.cells #[.slice none 0 0] T)) (eqB w.heap.size) w.heap.size [] :=
  ⟨none, 0, _, hT, heap_alloc_new w _, World.ownsRow_nil _ _ _ _, rfl, fun k h => by simp [Value.ownBlock] at h⟩
theorem sumSz_ok {l : List ByteArray} (h : okL l = true) : sumSz l ≤ 520 := by
  simp only [okL, Bool.and_eq_true, decide_eq_true_eq, List.all_eq_true] at h
  obtain ⟨h1, h2⟩ := h
  have : ∀ l : List ByteArray, (∀ s ∈ l, s.size ≤ 50) → sumSz l ≤ 52 * l.length := by
    intro l
    induction l with
    | nil => simp [sumSz]
    | cons s l ih =>
      intro h
      have := ih fun s hs => h s (List.mem_cons_of_mem _ hs)
      have := h s (List.mem_cons_self ..)
      simp only [sumSz, List.map_cons, List.sum_cons, List.length_cons] at *
      omega
  have := this l h2
  omega

set_option maxRecDepth 100000 in
set_option maxHeartbeats 3200000 in
theorem rows_walk (w : World) (A B : Option Addr) (c d : Nat) (l l' : List ByteArray) (ha : RowAt w A (strs l)) (hb : RowAt w B (strs l')) (hl : l.length ≤ 9223372036854775807) (hl' : l'.length ≤ 9223372036854775807)
   (hcA : l.length ≤ c) (hcB : l'.length ≤ d) :
   Calls Try.prog 3 #[.slice A l.length c, .slice B l'.length d] w (BoolPost w true) := by
  have hlv := @lives1_calls
  cases hok : (okL l && okL l') with
  | false =>
    have HOK := hid hok; clear hok
    go_enter Try.func3, Try.ntmps3
    go_wp2_with (go_at_call 14; refine (hlv _).mono ?_; rintro e w1 ⟨rfl, f1⟩)
    refine (few_calls _ _ 2 [lItem A c l, lItem B d l'] ⟨new_row _ _ _, ?_⟩ ?_ ?_).mono ?_
    · intro i hi
      simp only [List.mem_cons, List.not_mem_nil, or_false] at hi
      rcases hi with rfl | rfl
      · exact ha.fr0 ((‹Fr noB w w1›).alloc _)
      · exact hb.fr0 ((‹Fr noB w w1›).alloc _)
    · simp [maxLen]
    · intro i hi
      simp only [List.mem_cons, List.not_mem_nil, or_false] at hi
      unfold maxLen
      rcases hi with rfl | rfl <;> simp only [lItem] <;> omega
    rw [few_two, HOK.out]
    rintro e w2 ⟨rfl, f2⟩
    go_wp2_with (go_at_call 14; refine (hlv _).mono ?_; rintro e w3 ⟨rfl, f3⟩)
    go_ret
    exact ⟨rfl, ((f1.alloc _).then' f2).then' f3⟩
  | true =>
    have HOK := hid hok; clear hok
    go_enter Try.func3, Try.ntmps3
    go_wp2_with (go_at_call 14; refine (hlv _).mono ?_; rintro e w1 ⟨rfl, f1⟩)
    refine (few_calls _ _ 2 [lItem A c l, lItem B d l'] ⟨new_row _ _ _, ?_⟩ ?_ ?_).mono ?_
    · intro i hi
      simp only [List.mem_cons, List.not_mem_nil, or_false] at hi
      rcases hi with rfl | rfl
      · exact ha.fr0 ((‹Fr noB w w1›).alloc _)
      · exact hb.fr0 ((‹Fr noB w w1›).alloc _)
    · simp [maxLen]
    · intro i hi
      simp only [List.mem_cons, List.not_mem_nil, or_false] at hi
      unfold maxLen
      rcases hi with rfl | rfl <;> simp only [lItem] <;> omega
    rw [few_two, HOK.out]
    rintro e w2 ⟨rfl, f2⟩
    have f02 : Fr noB w w2 := (f1.alloc _).then' f2
    clear f1 f2
    have HS : okL l = true ∧ okL l' = true := by have := HOK.out; simpa using this
    obtain ⟨ok1, ok2⟩ := HS
    have s1 := sumSz_ok ok1
    have s2 := sumSz_ok ok2
    have n1 : l.length ≤ 65535 := by have := ok1; simp only [okL, Bool.and_eq_true, decide_eq_true_eq] at this; omega
    have n2 : l'.length ≤ 65535 := by have := ok2; simp only [okL, Bool.and_eq_true, decide_eq_true_eq] at this; omega
    have OK1 := hid ok1
    have OK2 := hid ok2
    clear ok1 ok2 HOK
    go_wp2_with fail
    have hx := (WrAt.new1 w2 32 (by decide)).fr ((Fr.refl noB _).alloc (.cells #[.slice none 0 0] 32)) (fun _ _ _ => id)
    have hy := WrAt.new1 (w2.alloc (.cells #[.slice none 0 0] 32)) 32 (by decide)
    rw [World.size_alloc] at hy
    have f03 : Fr noB w ((w2.alloc (.cells #[.slice none 0 0] 32)).alloc (.cells #[.slice none 0 0] 32)) := (f02.alloc _).alloc _
    have z3 : ((w2.alloc (.cells #[.slice none 0 0] 32)).alloc (.cells #[.slice none 0 0] 32)).heap.size = w2.heap.size + 2 := by simp
    have z2 : w.heap.size ≤ w2.heap.size := f02.size
    generalize (w2.alloc (.cells #[.slice none 0 0] 32)).alloc (.cells #[.slice none 0 0] 32) = w3 at *
    generalize w2.heap.size = p at *
    refine (row_calls_small w3 (eqB p) p [] A l.length c l hx (ha.fr0 f03) rfl hcA ?_ (by simp; omega) n1).mono ?_
    · intro h0 a e
      subst e
      have := ha.lt (by simpa [strs] using h0)
      unfold eqB; omega
    rintro e w4 ⟨rfl, hx4, f34⟩
    have f04 : Fr (upB w.heap.size) w w4 := (f03.up0 _).then' (f34.mono fun i _ h => by unfold eqB at h; unfold upB; omega)
    have g34 := f34.size
    go_wp2_with fail
    refine (row_calls_small w4 (eqB (p + 1)) (p + 1) [] B l'.length d l' (hy.fr f34 ?_) (hb.up f04) rfl hcB ?_ (by simp; omega) n2).mono ?_
    · unfold eqB; intro k _ h1 h2; omega
    · intro h0 a e
      subst e
      have := hb.lt (by simpa [strs] using h0)
      unfold eqB; omega
    rintro e w5 ⟨rfl, hy5, f45⟩
    have f05 : Fr (upB w.heap.size) w w5 := f04.then' (f45.mono fun i _ h => by unfold eqB at h; unfold upB; omega)
    have hx5 : WrAt w5 (andNew (eqB p) w3) p ([] ++ rowB l) := hx4.fr f45 (fun k hk h1 h2 => by unfold eqB andNew at *; omega)
    clear f34 f45 hx4 hx hy
    go_wp2_with fail
    refine wp_region_calm (R := Fr noB) (C := fun _ w' => Fr noB w5 w') (List.replicate 11 false)
      [eqv (.pointer (some ⟨p, 0, none⟩)), BytesV (rowB l), eqv (.string (mkS (rowB l))), eqv (.pointer (some ⟨p + 1, 0, none⟩)), BytesV (rowB l'), eqv (.string (mkS (rowB l'))), eqv (.bool (decide (l = l'))),
       eqv (.slice A l.length c), eqv (.slice B l'.length d), eqv (.bool (decide (l = l'))), eqv (.bool false)]
      (by kernel_rfl) (by kernel_rfl) (fun _ _ _ h1 h2 => h1.then' h2) ((Fr.refl _ _).drew) ((Fr.refl _ _).drew) (by kernel_rfl) ?_ ?_
    · refine ⟨?_, ?_, ?_, ?_, ?_, ?_, ?_, ?_, ?_, ?_, ?_, trivial⟩
      all_goals (rw [if_neg (by decide)]; intro k)
      · exact calm_mv 5 rfl rfl (Or.inl rfl) (Fr.refl _) (by decide) fun v w hd => hd
      · intro a w K hC hd hK
        have d1 : a.tmps[32]?.getD undef = .pointer (some ⟨p, 0, none⟩) := hd 32 (by decide)
        refine wpOp_plain rfl rfl ?_
        go_wp2_with fail
        refine (bytes_calls w _ p (rowB l) (hx5.fr hC (fun _ _ _ => id)) (by have := rowB_length l; omega)).mono ?_
        rintro e w' ⟨A', c', rfl, h1, f1⟩
        exact hK _ _ f1 (hC.then' f1) ⟨A', _, c', rfl, rfl, own_row h1⟩
      · intro a w K hC hd hK
        obtain ⟨Ax, n, cx, d1, hn, hr⟩ : (BytesV (rowB l)).V (a.tmps[33]?.getD undef) w := hd 33 (by decide)
        have hcv := Try.toStr hr hn cx
        refine calm_run rfl rfl (.string (mkS (rowB l))) (w' := w) ?_ (hK _ _ (Fr.refl _ _) hC rfl)
        simp [execOp, Act.eval, d1, hcv, Result.andThen]
      · exact calm_mv 6 rfl rfl (Or.inl rfl) (Fr.refl _) (by decide) fun v w hd => hd
      · intro a w K hC hd hK
        have d1 : a.tmps[35]?.getD undef = .pointer (some ⟨p + 1, 0, none⟩) := hd 35 (by decide)
        refine wpOp_plain rfl rfl ?_
        go_wp2_with fail
        refine (bytes_calls w _ (p + 1) (rowB l') (hy5.fr hC (fun _ _ _ => id)) (by have := rowB_length l'; omega)).mono ?_
        rintro e w' ⟨A', c', rfl, h1, f1⟩
        exact hK _ _ f1 (hC.then' f1) ⟨A', _, c', rfl, rfl, own_row h1⟩
      · intro a w K hC hd hK
        obtain ⟨Ax, n, cx, d1, hn, hr⟩ : (BytesV (rowB l')).V (a.tmps[36]?.getD undef) w := hd 36 (by decide)
        have hcv := Try.toStr hr hn cx
        refine calm_run rfl rfl (.string (mkS (rowB l'))) (w' := w) ?_ (hK _ _ (Fr.refl _ _) hC rfl)
        simp [execOp, Act.eval, d1, hcv, Result.andThen]
      · intro a w K hC hd hK
        have d1 : a.tmps[34]?.getD undef = .string (mkS (rowB l)) := hd 34 (by decide)
        have d2 : a.tmps[37]?.getD undef = .string (mkS (rowB l')) := hd 37 (by decide)
        refine calm_run rfl rfl (.bool (decide (l = l'))) (w' := w) ?_ (hK _ _ (Fr.refl _ _) hC rfl)
        simp [execOp, Act.eval, d1, d2, go_sem, Result.andThen, mkS_toList, rowB_beq OK1.out OK2.out]
      · exact calm_mv 0 rfl rfl (Or.inl rfl) (Fr.refl _) (by decide) fun v w hd => hd
      · exact calm_mv 1 rfl rfl (Or.inl rfl) (Fr.refl _) (by decide) fun v w hd => hd
      · intro a w K hC hd hK
        have d1 : a.tmps[39]?.getD undef = .slice A l.length c := hd 39 (by decide)
        have d2 : a.tmps[40]?.getD undef = .slice B l'.length d := hd 40 (by decide)
        refine wpOp_plain rfl rfl ?_
        go_wp2_with fail
        refine (same_calls w A B c d _ _ l l' ((ha.up f05).fr0 hC) ((hb.up f05).fr0 hC) rfl rfl hl).mono ?_
        rintro e w' ⟨rfl, f1⟩
        exact hK _ _ f1 (hC.then' f1) rfl
      · intro a w K hC hd hK
        have d1 : a.tmps[38]?.getD undef = .bool (decide (l = l')) := hd 38 (by decide)
        have d2 : a.tmps[41]?.getD undef = .bool (decide (l = l')) := hd 41 (by decide)
        refine calm_run rfl rfl (.bool false) (w' := w) ?_ (hK _ _ (Fr.refl _ _) hC rfl)
        simp [execOp, Act.eval, d1, d2, go_sem, Result.andThen]
    · intro vs w6 f6 _ hV
      have v42 : vs 10 = .bool false := hV 10 _ _ rfl rfl (by decide)
      simp only [putL, Act.put, List.setIfInBounds_toArray, List.set_cons_zero, List.set_cons_succ, v42]
      have f06 : Fr (upB w.heap.size) w w6 := f05.then' (f6.up0 _)
      clear hV f6 f05 f04 f03 f02 hx5 hy5
      have nd : l.length ≤ 10 ∧ l'.length ≤ 10 := ⟨(okL_spec OK1.out).1, (okL_spec OK2.out).1⟩
      go_wp2_with fail
      all_goals
        go_loopw [48] (fun i wr => ∃ k : Nat, k ≤ min l.length l'.length ∧ i = .int .i64 k ∧ Fr (upB w.heap.size) w wr) (fun i _ => min l.length l'.length - (intOf i).toNat)
        case atStart => exact ⟨0, Nat.zero_le _, rfl, f06⟩
        case round =>
          obtain ⟨k, hk, rfl, f0r⟩ := hrel
          by_cases hkn : k < min l.length l'.length
          · obtain ⟨s, hs⟩ : ∃ s, l[k]? = some s := ⟨_, List.getElem?_eq_getElem (by omega)⟩
            obtain ⟨t, ht⟩ : ∃ s, l'[k]? = some s := ⟨_, List.getElem?_eq_getElem (by omega)⟩
            obtain ⟨aA, rfl⟩ := strs_pos ha hs
            obtain ⟨aB, rfl⟩ := strs_pos hb ht
            have hrz := f0r.size
            have ss : s.size ≤ 50 := (okL_spec OK1.out).2 s (List.mem_of_getElem? hs)
            have st : t.size ≤ 50 := (okL_spec OK2.out).2 t (List.mem_of_getElem? ht)
            have hkl : k < l.length := by omega
            have hkl' : k < l'.length := by omega
            have ca : ∀ W, Fr (upB w.heap.size) w W → W.cell? (aA.add k) = some (.string s) := fun W f => (ha.up f).cell (strs_get hs)
            have cb : ∀ W, Fr (upB w.heap.size) w W → W.cell? (aB.add k) = some (.string t) := fun W f => (hb.up f).cell (strs_get ht)
            have HK := hid hkn
            clear hs ht hkn
            have hx := (WrAt.new1 wr 32 (by decide)).fr ((Fr.refl noB _).alloc (.cells #[.slice none 0 0] 32)) (fun _ _ _ => id)
            have hy := WrAt.new1 (wr.alloc (.cells #[.slice none 0 0] 32)) 32 (by decide)
            rw [World.size_alloc] at hy
            have g0 : Fr (upB w.heap.size) w ((wr.alloc (.cells #[.slice none 0 0] 32)).alloc (.cells #[.slice none 0 0] 32)) := (f0r.alloc _).alloc _
            have z3 : ((wr.alloc (.cells #[.slice none 0 0] 32)).alloc (.cells #[.slice none 0 0] 32)).heap.size = wr.heap.size + 2 := by simp
            have ca0 := ca _ g0
            go_wp2_with fail
            generalize (wr.alloc (.cells #[.slice none 0 0] 32)).alloc (.cells #[.slice none 0 0] 32) = v3 at *
            generalize wr.heap.size = r at *
            refine (text_calls v3 (eqB r) r [] s hx (by unfold maxLen; omega) (by simp; omega)).mono ?_
            rintro e v4 ⟨rfl, hx4, f34⟩
            have f04 : Fr (upB w.heap.size) w v4 := g0.then' (f34.mono fun i _ h => by unfold eqB at h; unfold upB; omega)
            have g34 := f34.size
            have cb0 := cb _ f04
            go_wp2_with fail
            refine (text_calls v4 (eqB (r + 1)) (r + 1) [] t (hy.fr f34 ?_) (by unfold maxLen; omega) (by simp; omega)).mono ?_
            · unfold eqB; intro k _ h1 h2; omega
            rintro e v5 ⟨rfl, hy5, f45⟩
            have f05 : Fr (upB w.heap.size) w v5 := f04.then' (f45.mono fun i _ h => by unfold eqB at h; unfold upB; omega)
            have hx5 : WrAt v5 (andNew (eqB r) v3) r ([] ++ textB s) := hx4.fr f45 (fun k hk h1 h2 => by unfold eqB andNew at *; omega)
            have tl1 := textB_length s
            have tl2 := textB_length t
            clear f34 f45 hx4 hx hy ca0 cb0 f04 g0 f0r f06
            go_wp2_with fail
            refine wp_region_calm (R := Fr noB) (C := fun _ w' => Fr noB v5 w') (List.replicate 17 false)
              [eqv (.pointer (some ⟨r, 0, none⟩)), BytesV (textB s), eqv (.string (mkS (textB s))), eqv (.pointer (some ⟨r + 1, 0, none⟩)), BytesV (textB t), eqv (.string (mkS (textB t))), eqv (.bool (decide (s = t))),
               eqv (.slice (some aA) l.length c), eqv (.int .i64 k), eqv (.pointer (some (aA.add k))), eqv (.string s), eqv (.slice (some aB) l'.length d), eqv (.int .i64 k), eqv (.pointer (some (aB.add k))), eqv (.string t), eqv (.bool (decide (s = t))), eqv (.bool false)]
              (by kernel_rfl) (by kernel_rfl) (fun _ _ _ h1 h2 => h1.then' h2) ((Fr.refl _ _).drew) ((Fr.refl _ _).drew) (by kernel_rfl) ?_ ?_
            · refine ⟨?_, ?_, ?_, ?_, ?_, ?_, ?_, ?_, ?_, ?_, ?_, ?_, ?_, ?_, ?_, ?_, ?_, trivial⟩
              all_goals (rw [if_neg (by decide)]; intro k')
              · exact calm_mv 8 rfl rfl (Or.inl rfl) (Fr.refl _) (by decide) fun v w hd => hd
              · intro a w K hC hd hK
                have d1 : a.tmps[67]?.getD undef = .pointer (some ⟨r, 0, none⟩) := hd 67 (by decide)
                refine wpOp_plain rfl rfl ?_
                go_wp2_with fail
                refine (bytes_calls w _ (r) (textB s) (hx5.fr hC (fun _ _ _ => id)) (by omega)).mono ?_
                rintro e w' ⟨A', c', rfl, h1, f1⟩
                exact hK _ _ f1 (hC.then' f1) ⟨A', _, c', rfl, rfl, own_row h1⟩
              · intro a w K hC hd hK
                obtain ⟨Ax, n, cx, d1, hn, hr⟩ : (BytesV (textB s)).V (a.tmps[68]?.getD undef) w := hd 68 (by decide)
                have hcv := Try.toStr hr hn cx
                refine calm_run rfl rfl (.string (mkS (textB s))) (w' := w) ?_ (hK _ _ (Fr.refl _ _) hC rfl)
                simp [execOp, Act.eval, d1, hcv, Result.andThen]
              · exact calm_mv 9 rfl rfl (Or.inl rfl) (Fr.refl _) (by decide) fun v w hd => hd
              · intro a w K hC hd hK
                have d1 : a.tmps[70]?.getD undef = .pointer (some ⟨r + 1, 0, none⟩) := hd 70 (by decide)
                refine wpOp_plain rfl rfl ?_
                go_wp2_with fail
                refine (bytes_calls w _ (r + 1) (textB t) (hy5.fr hC (fun _ _ _ => id)) (by omega)).mono ?_
                rintro e w' ⟨A', c', rfl, h1, f1⟩
                exact hK _ _ f1 (hC.then' f1) ⟨A', _, c', rfl, rfl, own_row h1⟩
              · intro a w K hC hd hK
                obtain ⟨Ax, n, cx, d1, hn, hr⟩ : (BytesV (textB t)).V (a.tmps[71]?.getD undef) w := hd 71 (by decide)
                have hcv := Try.toStr hr hn cx
                refine calm_run rfl rfl (.string (mkS (textB t))) (w' := w) ?_ (hK _ _ (Fr.refl _ _) hC rfl)
                simp [execOp, Act.eval, d1, hcv, Result.andThen]
              · intro a w K hC hd hK
                have d1 : a.tmps[69]?.getD undef = .string (mkS (textB s)) := hd 69 (by decide)
                have d2 : a.tmps[72]?.getD undef = .string (mkS (textB t)) := hd 72 (by decide)
                refine calm_run rfl rfl (.bool (decide (s = t))) (w' := w) ?_ (hK _ _ (Fr.refl _ _) hC rfl)
                simp [execOp, Act.eval, d1, d2, go_sem, Result.andThen, mkS_toList, textB_beq (show s.size ≤ 65535 by omega) (show t.size ≤ 65535 by omega)]
              · exact calm_mv 0 rfl rfl (Or.inl rfl) (Fr.refl _) (by decide) fun v w hd => hd
              · exact calm_mv 7 rfl rfl (Or.inl rfl) (Fr.refl _) (by decide) fun v w hd => hd
              · intro a w K hC hd hK
                have d1 : a.tmps[74]?.getD undef = .slice (some aA) l.length c := hd 74 (by decide)
                have d2 : a.tmps[75]?.getD undef = .int .i64 k := hd 75 (by decide)
                refine wpOp_plain rfl rfl ?_
                go_wp2_with fail
                exact hK _ _ (Fr.refl _ _) hC rfl
              · intro a w K hC hd hK
                have d1 : a.tmps[76]?.getD undef = .pointer (some (aA.add k)) := hd 76 (by decide)
                have cx := ca w (f05.then' (hC.up0 _))
                refine wpOp_plain rfl rfl ?_
                go_wp2_with fail
                exact hK _ _ (Fr.refl _ _) hC rfl
              · exact calm_mv 1 rfl rfl (Or.inl rfl) (Fr.refl _) (by decide) fun v w hd => hd
              · exact calm_mv 7 rfl rfl (Or.inl rfl) (Fr.refl _) (by decide) fun v w hd => hd
              · intro a w K hC hd hK
                have d1 : a.tmps[78]?.getD undef = .slice (some aB) l'.length d := hd 78 (by decide)
                have d2 : a.tmps[79]?.getD undef = .int .i64 k := hd 79 (by decide)
                refine wpOp_plain rfl rfl ?_
                go_wp2_with fail
                exact hK _ _ (Fr.refl _ _) hC rfl
              · intro a w K hC hd hK
                have d1 : a.tmps[80]?.getD undef = .pointer (some (aB.add k)) := hd 80 (by decide)
                have cx := cb w (f05.then' (hC.up0 _))
                refine wpOp_plain rfl rfl ?_
                go_wp2_with fail
                exact hK _ _ (Fr.refl _ _) hC rfl
              · intro a w K hC hd hK
                have d1 : a.tmps[77]?.getD undef = .string s := hd 77 (by decide)
                have d2 : a.tmps[81]?.getD undef = .string t := hd 81 (by decide)
                refine calm_run rfl rfl (.bool (decide (s = t))) (w' := w) ?_ (hK _ _ (Fr.refl _ _) hC rfl)
                simp [execOp, Act.eval, d1, d2, go_sem, Result.andThen, str_eq]
              · intro a w K hC hd hK
                have d1 : a.tmps[73]?.getD undef = .bool (decide (s = t)) := hd 73 (by decide)
                have d2 : a.tmps[82]?.getD undef = .bool (decide (s = t)) := hd 82 (by decide)
                refine calm_run rfl rfl (.bool false) (w' := w) ?_ (hK _ _ (Fr.refl _ _) hC rfl)
                simp [execOp, Act.eval, d1, d2, go_sem, Result.andThen, Bool.false_eq_true]
            · intro vs v6 f6 _ hV
              have v83 : vs 16 = .bool false := hV 16 _ _ rfl rfl (by decide)
              simp only [putL, Act.put, List.setIfInBounds_toArray, List.set_cons_zero, List.set_cons_succ, v83]
              go_wp2_with fail
              go_roundw
              case rel => exact ⟨k + 1, by have := HK.out; omega, by go_num, f05.then' (f6.up0 _)⟩
              case measure => have := HK.out; simp [intOf]; omega
          · have hkn' : k = min l.length l'.length := by omega
            clear hkn
            go_wp2_with fail
            go_ret
            exact ⟨rfl, f0r.none⟩

theorem rows_law (w : World) (A : Option Addr) (n c : Nat) (l : List ByteArray) (o : RowAt w A (strs l) ∧ l.length = n ∧ n ≤ c ∧ c ≤ maxLen ∧ (∀ s ∈ l, s.size ≤ maxLen) ∧ (A = none → n = 0 ∧ c = 0))
    (B : Option Addr) (m d : Nat) (l' : List ByteArray) (o' : RowAt w B (strs l') ∧ l'.length = m ∧ m ≤ d ∧ d ≤ maxLen ∧ (∀ s ∈ l', s.size ≤ maxLen) ∧ (B = none → m = 0 ∧ d = 0)) :
    Calls Try.prog 3 #[.slice A n c, .slice B m d] w (BoolPost w true) := by
  obtain ⟨h1, rfl, h2, h3, _⟩ := o
  obtain ⟨g1, rfl, g2, g3, _⟩ := o'
  unfold maxLen at *
  exact rows_walk w A B c d l l' h1 g1 (by omega) (by omega) h2 g2
end Go.Proofs.Ytcpcmcdfncjnaaa
