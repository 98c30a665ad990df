/- advert.Board: what it holds, and its contracts. -/
import Derived.Test.YtcpcmcdfncjnaaaFew
import Derived.Test.YtcpcmcdfncjnaaaClone
import Derived.Laws.MakeOwn
import Derived.Laws.Bits64b
namespace Go.Proofs.Ytcpcmcdfncjnaaa
open Go.RowKit

theorem and_u8 (a b : Nat) (ha : a < 256) (hb : b < 256) : bits .and .u8 (a : Int) (b : Int) = ((a &&& b : Nat) : Int) := by
  have hx : a &&& b < 2 ^ 8 := Nat.and_lt_two_pow _ (by omega)
  have h1 : (BitVec.ofInt 8 (a : Int)).toNat = a := by
    rw [BitVec.ofInt_natCast, BitVec.toNat_ofNat]; exact Nat.mod_eq_of_lt (by omega)
  have h2 : (BitVec.ofInt 8 (b : Int)).toNat = b := by
    rw [BitVec.ofInt_natCast, BitVec.toNat_ofNat]; exact Nat.mod_eq_of_lt (by omega)
  show IntKind.u8.wrap ((BitVec.ofInt 8 (a : Int) &&& BitVec.ofInt 8 (b : Int)).toNat : Int) = _
  rw [BitVec.toNat_and, h1, h2]
  simp [IntKind.wrap, IntKind.bits, IntKind.signed]
  omega
theorem or_u8 (a b : Nat) (ha : a < 256) (hb : b < 256) : bits .or .u8 (a : Int) (b : Int) = ((a ||| b : Nat) : Int) := by
  have hx : a ||| b < 2 ^ 8 := Nat.or_lt_two_pow (by omega) (by omega)
  have h1 : (BitVec.ofInt 8 (a : Int)).toNat = a := by
    rw [BitVec.ofInt_natCast, BitVec.toNat_ofNat]; exact Nat.mod_eq_of_lt (by omega)
  have h2 : (BitVec.ofInt 8 (b : Int)).toNat = b := by
    rw [BitVec.ofInt_natCast, BitVec.toNat_ofNat]; exact Nat.mod_eq_of_lt (by omega)
  show IntKind.u8.wrap ((BitVec.ofInt 8 (a : Int) ||| BitVec.ofInt 8 (b : Int)).toNat : Int) = _
  rw [BitVec.toNat_or, h1, h2]
  simp [IntKind.wrap, IntKind.bits, IntKind.signed]
  omega

/-- Are all of one in the other one? -/
def hasB (r a : Nat) : Bool := decide (r &&& a = a)
theorem has_calls (w : World) (r a : Nat) (hr : r < 256) (ha : a < 256) :
    Calls Try.prog 25 #[.int .u8 r, .int .u8 a] w (fun e w' => e = .returned (.bool (hasB r a)) ∧ w = w') := by
  have hb := and_u8 r a hr ha
  obtain ⟨t, ht⟩ : ∃ t, Hid (hasB r a = t) := ⟨_, rfl⟩
  have h1 : (((r &&& a : Nat) : Int) == (a : Int)) = t := by
    rw [← ht.out]; unfold hasB; rw [Bool.eq_iff_iff]; simp; omega
  generalize (r &&& a) = x at *
  go_enter Try.func25, Try.ntmps25
  go_wp2_with fail
  go_ret
  exact ⟨by rw [ht.out]; rfl, rfl⟩

def ncells (l : List Nat) : List Value := l.map fun x => Value.int .u8 (x : Nat)
theorem ncells_length (l : List Nat) : (ncells l).length = l.length := by simp [ncells]
/-- At p a Board with the releases l, in blocks of S. -/
structure BoV (w : World) (S : Nat → Prop) (p g : Nat) (n c : Nat) (l : List Nat) : Prop where
  len : Hid (l.length = n)
  heap : w.heap[p]? = some (.cells #[.slice (some ⟨g, 0, none⟩) n c] 123 (0, 0))
  row : ∃ r, w.heap[g]? = some (.cells (ncells l ++ r).toArray 45 (0, 0))
  cap : n ≤ c
  max : c ≤ 9223372036854775807
  inP : S p
  inG : S g
def BoAt (w : World) (S : Nat → Prop) (p : Nat) (l : List Nat) : Prop := ∃ g n c, BoV w S p g n c l

theorem BoV.ne {w : World} {S : Nat → Prop} {p g n c : Nat} {l : List Nat} (h : BoV w S p g n c l) : g ≠ p := by
  intro e
  obtain ⟨r, hr⟩ := h.row
  rw [e, h.heap] at hr
  injection hr with hr; injection hr with _ h2; exact absurd h2 (by decide)
theorem BoV.fr {w w' : World} {S T : Nat → Prop} {p g n c : Nat} {l : List Nat} (h : BoV w S p g n c l) (f : Fr T w w') (hd : ∀ k, k < w.heap.size → S k → ¬ T k) : BoV w' S p g n c l := by
  obtain ⟨r, hr⟩ := h.row
  exact ⟨h.len, f.heap h.heap (hd p (Array.getElem?_eq_some_iff.1 h.heap).1 h.inP), ⟨r, f.heap hr (hd g (Array.getElem?_eq_some_iff.1 hr).1 h.inG)⟩, h.cap, h.max, h.inP, h.inG⟩
theorem BoAt.fr {w w' : World} {S T : Nat → Prop} {p : Nat} {l : List Nat} (h : BoAt w S p l) (f : Fr T w w') (hd : ∀ k, k < w.heap.size → S k → ¬ T k) : BoAt w' S p l := by
  obtain ⟨g, n, c, h⟩ := h
  exact ⟨g, n, c, h.fr f hd⟩
theorem BoAt.fr0 {w w' : World} {S : Nat → Prop} {p : Nat} {l : List Nat} (h : BoAt w S p l) (f : Fr noB w w') : BoAt w' S p l := h.fr f fun _ _ _ => id
theorem BoAt.mono {w : World} {S T : Nat → Prop} {p : Nat} {l : List Nat} (h : BoAt w S p l) (hd : ∀ k, k < w.heap.size → S k → T k) : BoAt w T p l := by
  obtain ⟨g, n, c, h⟩ := h
  obtain ⟨r, hr⟩ := h.row
  exact ⟨g, n, c, h.len, h.heap, h.row, h.cap, h.max, hd p (Array.getElem?_eq_some_iff.1 h.heap).1 h.inP, hd g (Array.getElem?_eq_some_iff.1 hr).1 h.inG⟩
theorem BoAt.cut {w : World} {S : Nat → Prop} {p : Nat} {l : List Nat} (h : BoAt w S p l) : BoAt w (fun k => S k ∧ k < w.heap.size) p l := h.mono fun _ h1 h2 => ⟨h2, h1⟩
theorem BoV.cell {w : World} {S : Nat → Prop} {p g n c : Nat} {l : List Nat} (h : BoV w S p g n c l) : w.cell? ⟨p, 0, none⟩ = some (.slice (some ⟨g, 0, none⟩) n c) := by
  simp [World.cell?, h.heap]
theorem BoV.at {w : World} {S : Nat → Prop} {p g n c : Nat} {l : List Nat} (h : BoV w S p g n c l) {j x : Nat} (hx : l[j]? = some x) : w.cell? ⟨g, j, none⟩ = some (.int .u8 (x : Nat)) ∧ w.frozen? ⟨g, j, none⟩ = false := by
  obtain ⟨r, hr⟩ := h.row
  have hj : j < l.length := (List.getElem?_eq_some_iff.1 hx).1
  refine ⟨?_, by simp [World.frozen?, hr]⟩
  rw [cell_of_row _ _ _ _ _ _ hr]
  simp only [List.getElem?_toArray]
  rw [List.getElem?_append_left (by rw [ncells_length]; exact hj), ncells, List.getElem?_map, hx]
  rfl
theorem BoV.set {w : World} {S : Nat → Prop} {p g n c : Nat} {l : List Nat} (h : BoV w S p g n c l) {j : Nat} (hj : j < n) (x : Nat) : BoV (w.setCell ⟨g, j, none⟩ (.int .u8 (x : Nat))) S p g n c (l.set j x) := by
  obtain ⟨r, hr⟩ := h.row
  have hf := (Fr.refl (eqB g) w).setCell (p := ⟨g, j, none⟩) (Or.inl rfl) (.int .u8 (x : Nat))
  refine ⟨by unfold Hid; rw [List.length_set]; exact h.len.out, hf.heap h.heap (fun e => h.ne e.symm), ⟨r, ?_⟩, h.cap, h.max, h.inP, h.inG⟩
  simp only [World.setCell, Array.getElem?_modify, hr]
  simp only [if_true, Option.map_some, ncells, List.map_set]
  rw [List.setIfInBounds_toArray, List.set_append_left _ _ (by rw [List.length_map, h.len.out]; exact hj)]
  rfl

def BoPost (w : World) (S : Nat → Prop) (p : Nat) (l : List Nat) (v : Value) (e : Ending) (w' : World) : Prop := e = .returned v ∧ BoAt w' S p l ∧ Fr S w w'
/-- What Note does. -/
def bNote (l : List Nat) (k r : Nat) : List Nat × Nat := if k < l.length ∧ 1 ≤ r ∧ r ≤ 3 then (l.set k r, 0) else (l, 1)
theorem note_calls (w : World) (S : Nat → Prop) (p : Nat) (l : List Nat) (k r : Nat) (h : BoAt w S p l) (hk : k < 256) (hr : r < 256) :
    Calls Try.prog 22 #[.pointer (some ⟨p, 0, none⟩), .int .u8 k, .int .u8 r] w (BoPost w S p (bNote l k r).1 (.int .i64 ((bNote l k r).2 : Nat))) := by
  obtain ⟨g, n, c, h⟩ := h
  have hc := h.cell
  have hm := h.max
  have hcp := h.cap
  by_cases h1 : k < n
  · by_cases h2 : 1 ≤ r
    · by_cases h3 : r ≤ 3
      · have HB : Hid (bNote l k r = (l.set k r, 0)) := by unfold Hid bNote; rw [if_pos ⟨by rw [h.len.out]; exact h1, h2, h3⟩]
        obtain ⟨x, hx⟩ : ∃ x, l[k]? = some x := ⟨_, List.getElem?_eq_getElem (by rw [h.len.out]; exact h1)⟩
        obtain ⟨c1, z1⟩ := h.at hx
        have HX := hid hx; clear hx
        go_enter Try.func22, Try.ntmps22
        go_wp2_with fail
        go_ret
        rw [HB.out]
        exact ⟨rfl, ⟨g, n, c, h.set h1 r⟩, (Fr.refl _ _).setCell (p := ⟨g, k, none⟩) (Or.inl h.inG) _⟩
      · have HB : Hid (bNote l k r = (l, 1)) := by unfold Hid bNote; rw [if_neg (by omega)]
        go_enter Try.func22, Try.ntmps22
        go_wp2_with fail
        go_ret
        rw [HB.out]
        exact ⟨rfl, ⟨g, n, c, h⟩, Fr.refl _ _⟩
    · have HB : Hid (bNote l k r = (l, 1)) := by unfold Hid bNote; rw [if_neg (by omega)]
      go_enter Try.func22, Try.ntmps22
      go_wp2_with fail
      go_ret
      rw [HB.out]
      exact ⟨rfl, ⟨g, n, c, h⟩, Fr.refl _ _⟩
  · have HB : Hid (bNote l k r = (l, 1)) := by unfold Hid bNote; rw [if_neg (by rw [h.len.out]; omega)]
    go_enter Try.func22, Try.ntmps22
    go_wp2_with fail
    go_ret
    rw [HB.out]
    exact ⟨rfl, ⟨g, n, c, h⟩, Fr.refl _ _⟩
theorem nodes_calls (w : World) (S : Nat → Prop) (p : Nat) (l : List Nat) (h : BoAt w S p l) :
    Calls Try.prog 23 #[.pointer (some ⟨p, 0, none⟩)] w (fun e w' => e = .returned (.int .i64 l.length) ∧ w = w') := by
  obtain ⟨g, n, c, h⟩ := h
  have hc := h.cell
  have HL := h.len
  go_enter Try.func23, Try.ntmps23
  go_wp2_with fail
  go_ret
  exact ⟨by rw [HL.out]; rfl, rfl⟩
theorem ofB_calls (w : World) (S : Nat → Prop) (p : Nat) (l : List Nat) (k : Nat) (h : BoAt w S p l) (hk : k < 256) :
    Calls Try.prog 24 #[.pointer (some ⟨p, 0, none⟩), .int .u8 k] w (fun e w' => e = .returned (.int .u8 ((l.getD k 0 : Nat) : Int)) ∧ w = w') := by
  obtain ⟨g, n, c, h⟩ := h
  have hc := h.cell
  have hm := h.max
  have hcp := h.cap
  by_cases h1 : k < n
  · obtain ⟨x, hx⟩ : ∃ x, l[k]? = some x := ⟨_, List.getElem?_eq_getElem (by rw [h.len.out]; exact h1)⟩
    obtain ⟨c1, z1⟩ := h.at hx
    have HX : Hid (l.getD k 0 = x) := by unfold Hid; rw [List.getD_eq_getElem?_getD, hx]; rfl
    clear hx
    go_enter Try.func24, Try.ntmps24
    go_wp2_with fail
    go_ret
    exact ⟨by rw [HX.out]; rfl, rfl⟩
  · have HX : Hid (l.getD k 0 = 0) := by unfold Hid; rw [List.getD_eq_getElem?_getD, List.getElem?_eq_none (by rw [h.len.out]; omega)]; rfl
    go_enter Try.func24, Try.ntmps24
    go_wp2_with fail
    go_ret
    exact ⟨by rw [HX.out]; rfl, rfl⟩

/-- Who lacks r, among the places from k on. -/
def lackF (l : List Nat) (r : Nat) (m : Nat) : List UInt8 := ((List.range m).filter fun i => !hasB (l.getD i 0) r).map UInt8.ofNat
def lackB (l : List Nat) (r : Nat) : List UInt8 := lackF l r l.length
theorem lackF_succ (l : List Nat) (r m : Nat) : lackF l r (m + 1) = if hasB (l.getD m 0) r then lackF l r m else lackF l r m ++ [UInt8.ofNat m] := by
  unfold lackF
  rw [List.range_succ, List.filter_append, List.map_append]
  cases h : hasB (l.getD m 0) r <;> simp only [List.filter_cons, List.filter_nil, h] <;> simp
theorem lackF_length (l : List Nat) (r m : Nat) : (lackF l r m).length ≤ m := by
  unfold lackF
  rw [List.length_map]
  exact Nat.le_trans (List.length_filter_le _ _) (by simp)
def LackPost (w : World) (xs : List UInt8) (e : Ending) (w' : World) : Prop :=
  ∃ A c, e = .returned (.slice A xs.length c) ∧ w'.ownsRow w.heap.size 5 1 (.slice A xs.length c) xs.length (bcells xs) ∧ Fr noB w w'
set_option maxHeartbeats 800000 in
theorem lacking_calls (w : World) (S : Nat → Prop) (p : Nat) (l : List Nat) (r : Nat) (h : BoAt w S p l) (hr : r < 256) (hl : ∀ x ∈ l, x < 256) (h7 : l.length ≤ 7) :
    Calls Try.prog 57 #[.pointer (some ⟨p, 0, none⟩), .int .u8 r] w (LackPost w (lackB l r)) := by
  obtain ⟨g, n, c, h⟩ := h
  have hc := h.cell
  have hm := h.max
  have hcp := h.cap
  have h7' : n ≤ 7 := by rw [← h.len.out]; exact h7
  clear h7
  go_enter Try.func57, Try.ntmps57
  go_wp2_with fail
  go_loopw [5, 13] (fun v i wr => ∃ k : Nat, k ≤ n ∧ i = .int .i64 k ∧ (∃ A m cc, Hid ((lackF l r k).length = m) ∧ v = .slice A m cc ∧ wr.ownsRow w.heap.size 5 1 v m (bcells (lackF l r k))) ∧ Fr noB w wr) (fun _ i _ => n - (intOf i).toNat)
  case atStart => exact ⟨0, Nat.zero_le _, rfl, ⟨none, 0, 0, rfl, rfl, World.ownsRow_nil _ _ _ _⟩, Fr.refl _ _⟩
  case round =>
    obtain ⟨k, hk, rfl, ⟨A, m, cc, HM, rfl, hown⟩, hf⟩ := hrel
    have hmk : m ≤ k := by rw [← HM.out]; exact lackF_length l r k
    have hz := hf.size
    by_cases hkn : k < n
    · obtain ⟨x, hx⟩ : ∃ x, l[k]? = some x := ⟨_, List.getElem?_eq_getElem (by rw [h.len.out]; exact hkn)⟩
      obtain ⟨c1, z1⟩ := (h.fr hf (fun _ _ _ => id)).at hx
      have hx256 := hl x (List.mem_of_getElem? hx)
      have HX : Hid (l.getD k 0 = x) := by unfold Hid; rw [List.getD_eq_getElem?_getD, hx]; rfl
      have HS := hid (lackF_succ l r k)
      rw [HX.out] at HS
      have hh := fun W => has_calls W x r hx256 hr
      clear hx HX
      cases hb : hasB x r with
      | true =>
        rw [hb] at hh HS
        have HB := hid hb; clear hb
        go_wp2_with fail
        refine (hh _).mono ?_
        rintro e w2 ⟨rfl, rfl⟩
        go_wp2_with fail
        go_roundw
        case rel => exact ⟨k + 1, by omega, by go_num, ⟨A, m, cc, by rw [HS.out]; exact HM, rfl, by rw [HS.out]; exact hown⟩, hf⟩
        case measure => simp [intOf]; omega
      | false =>
        rw [hb] at hh HS
        have HB := hid hb; clear hb
        go_wp2_with fail
        refine (hh _).mono ?_
        rintro e w2 ⟨rfl, rfl⟩
        have hown0 : wr.ownsRow 0 5 1 (.slice A m cc) m (bcells (lackF l r k)) := own_mono hown (fun _ _ => Nat.zero_le _)
        go_wp2_with (at_builtin; refine wpList_app Try.app8 rfl (.tmp 22) (.tmp 25) rfl _ m (bcells (lackF l r k)) rfl (hown0.alloc _) _ 1 1 [.int .u8 (k : Int)] rfl rfl (cell_one_row _ _ _) (fun u hu => by simp at hu; subst hu; rfl) (by simp) (by omega) (by omega) ?_)
        intro A' c' w3 hown' hg hat
        have hbase : ∀ g, (Value.slice A m cc).ownBlock = some g → w.heap.size ≤ g := fun g hg => (hown.lt g hg).1
        have f3 : Fr noB w w3 := Fr.grown (hf.alloc _) hg (fun g hg => Or.inr (hbase g hg))
        have hown4 : w3.ownsRow w.heap.size 5 1 (.slice A' (m + 1) c') (m + 1) (bcells (lackF l r k ++ [UInt8.ofNat k])) := by
          have : bcells (lackF l r k ++ [UInt8.ofNat k]) = bcells (lackF l r k) ++ [.int .u8 (k : Int)] := by
            simp [bcells]; omega
          rw [this]
          refine own_mono hown' (fun g hg => ?_)
          rcases hat with e | e
          · exact hbase g (e ▸ hg)
          · rw [hg] at e; simp at e; omega
        have HM' : Hid ((lackF l r k ++ [UInt8.ofNat k]).length = m + 1) := by unfold Hid; rw [List.length_append, HM.out]; rfl
        clear hg hat hown' hown0 hown hf
        go_wp2_with fail
        go_roundw
        case rel => exact ⟨k + 1, by omega, by go_num, ⟨A', m + 1, c', by rw [HS.out]; exact HM', rfl, by rw [HS.out]; exact hown4⟩, f3⟩
        case measure => simp [intOf]; omega
    · have : k = n := by omega
      subst this
      go_wp2_with fail
      go_ret
      have e : lackF l r k = lackB l r := by unfold lackB; rw [h.len.out]
      rw [e] at HM hown
      exact ⟨A, cc, by rw [HM.out]; rfl, by rw [HM.out]; exact hown, hf⟩
/-- Has each one? -/
def allB' (l : List Nat) (r : Nat) : Bool := l.all fun x => hasB x r
theorem lackB_nil (l : List Nat) (r : Nat) : ((lackB l r).length = 0) ↔ allB' l r = true := by
  unfold lackB lackF allB'
  rw [List.length_map, List.length_eq_zero_iff, List.filter_eq_nil_iff, List.all_eq_true]
  constructor
  · intro h x hx
    obtain ⟨i, hi, rfl⟩ := List.getElem_of_mem hx
    have := h i (by simpa using hi)
    rw [List.getD_eq_getElem?_getD, List.getElem?_eq_getElem hi] at this
    simpa using this
  · intro h i hi
    have hi' : i < l.length := by simpa using hi
    have := h l[i] (List.getElem_mem hi')
    rw [List.getD_eq_getElem?_getD, List.getElem?_eq_getElem hi']
    simpa using this
theorem all_calls (w : World) (S : Nat → Prop) (p : Nat) (l : List Nat) (r : Nat) (h : BoAt w S p l) (hr : r < 256) (hl : ∀ x ∈ l, x < 256) (h7 : l.length ≤ 7) :
    Calls Try.prog 26 #[.pointer (some ⟨p, 0, none⟩), .int .u8 r] w (BoolPost w (allB' l r)) := by
  have hc := lacking_calls w S p l r h hr hl h7
  obtain ⟨n, hn⟩ : ∃ n, Hid ((lackB l r).length = n) := ⟨_, rfl⟩
  have ht : ((n : Int) == 0) = allB' l r := by
    have := lackB_nil l r
    rw [hn.out] at this
    rw [Bool.eq_iff_iff, ← this]; simp
  clear hl h7
  generalize allB' l r = t at *
  go_enter Try.func26, Try.ntmps26
  go_wp2_with fail
  refine hc.mono ?_
  rintro e w1 ⟨A, c, rfl, h1, f1⟩
  rw [hn.out]
  clear h1 hc
  go_wp2_with fail
  go_ret
  exact ⟨rfl, f1⟩
/-- May there be so many? -/
def rightB (n : Int) : Bool := n == 3 || n == 5 || n == 7
set_option maxRecDepth 100000 in
theorem newB_yes (w : World) (n : Nat) (hn : n = 3 ∨ n = 5 ∨ n = 7) :
    Calls Try.prog 21 #[.int .i64 n] w (fun e w' => e = .returned (.pointer (some ⟨w.heap.size + 1, 0, none⟩)) ∧ BoAt w' (upB w.heap.size) (w.heap.size + 1) (List.replicate n 0) ∧ Fr noB w w') := by
  obtain ⟨i, hi, hz, hsz, hby⟩ := info_parts (show (Try.prog.info? 45).map (fun i => (i.zero, i.size, i.bytes)) = some (some (.int .u8 0), 1, 1) by kernel_rfl)
  have mk : (Instr.makeSlice 121 (.int .i64 (n : Int)) (.int .i64 (n : Int))).run Try.prog w = .ok (.slice (some ⟨w.heap.size, 0, none⟩) n n) (w.alloc (.cells (madeCells #[Value.int .u8 0] n) 45)) := by
    have := run_make (P := Try.prog) w 121 45 i _ Try.underlying121 hi hz .i64 .i64 n n (by omega) (by omega) (by rw [hby]; omega) (by omega)
    simp only [Int.toNat_natCast, hsz, Nat.mul_one] at this
    exact this
  have fin : ∀ n : Nat, n ≤ 7 → BoAt ((w.alloc (.cells (madeCells #[Value.int .u8 0] n) 45)).alloc (.cells #[.slice (some ⟨w.heap.size, 0, none⟩) n n] 123)) (upB w.heap.size) (w.heap.size + 1) (List.replicate n 0) := fun n hn => by
    refine ⟨w.heap.size, n, n, by unfold Hid; simp, ?_, ⟨[], ?_⟩, Nat.le_refl _, by omega, Nat.le_succ _, Nat.le_refl _⟩
    · have := heap_alloc_new (w.alloc (.cells (madeCells #[Value.int .u8 0] n) 45)) (.cells #[.slice (some ⟨w.heap.size, 0, none⟩) n n] 123)
      simpa using this
    · rw [List.append_nil]
      have e : (ncells (List.replicate n 0)).toArray = madeCells #[Value.int .u8 0] n := by
        apply Array.ext'
        refine List.ext_getElem (by simp [madeCells, ncells]) fun i h1 h2 => ?_
        simp [madeCells, ncells, Nat.mod_one]
      rw [e]
      exact ((Fr.refl noB _).alloc _).heap (heap_alloc_new w _) id
  clear hi hz hsz hby
  have FIN := hid (fin n (by omega))
  clear fin
  rcases hn with rfl | rfl | rfl
  · replace mk : (Instr.makeSlice 121 (.int .i64 3) (.int .i64 3)).run Try.prog w = .ok (.slice (some ⟨w.heap.size, 0, none⟩) 3 3) (w.alloc (.cells (madeCells #[Value.int .u8 0] 3) 45)) := mk
    show Calls Try.prog 21 #[.int .i64 3] w _
    go_enter Try.func21, Try.ntmps21
    go_wp2_with fail
    go_ret
    exact ⟨by simp, FIN.out, ((Fr.refl noB w).alloc _).alloc _⟩
  · replace mk : (Instr.makeSlice 121 (.int .i64 5) (.int .i64 5)).run Try.prog w = .ok (.slice (some ⟨w.heap.size, 0, none⟩) 5 5) (w.alloc (.cells (madeCells #[Value.int .u8 0] 5) 45)) := mk
    show Calls Try.prog 21 #[.int .i64 5] w _
    go_enter Try.func21, Try.ntmps21
    go_wp2_with fail
    go_ret
    exact ⟨by simp, FIN.out, ((Fr.refl noB w).alloc _).alloc _⟩
  · replace mk : (Instr.makeSlice 121 (.int .i64 7) (.int .i64 7)).run Try.prog w = .ok (.slice (some ⟨w.heap.size, 0, none⟩) 7 7) (w.alloc (.cells (madeCells #[Value.int .u8 0] 7) 45)) := mk
    show Calls Try.prog 21 #[.int .i64 7] w _
    go_enter Try.func21, Try.ntmps21
    go_wp2_with fail
    go_ret
    exact ⟨by simp, FIN.out, ((Fr.refl noB w).alloc _).alloc _⟩
theorem newB_no (w : World) (n : Int) (hn : rightB n = false) :
    Calls Try.prog 21 #[.int .i64 n] w (fun e w' => e = .returned (.pointer none) ∧ w = w') := by
  simp only [rightB, Bool.or_eq_false_iff] at hn
  obtain ⟨⟨h3, h5⟩, h7⟩ := hn
  go_enter Try.func21, Try.ntmps21
  go_wp2_with fail
  go_ret
  exact ⟨rfl, rfl⟩
end Go.Proofs.Ytcpcmcdfncjnaaa
