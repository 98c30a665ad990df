/- crc.Table: what it holds, and its contracts. -/
import Derived.Test.YtnkdlmmdaagonaaOnce
import Derived.Test.YtnkdlmmdaagonaaFew
import Derived.Laws.Bits64b
import Derived.Lib.SlBytesConst
namespace Go.Proofs.Ytnkdlmmdaagonaa
open Go.RowKit

/-! ### Sums, as numbers -/
def crcStep (x : Nat) : Nat := if x % 2 = 1 then (x / 2) ^^^ 3988292384 else x / 2
def crcIter : Nat → Nat → Nat
  | 0, x => x
  | n + 1, x => crcStep (crcIter n x)
def crcRow (i : Nat) : Nat := crcIter 8 i
def not32 (x : Nat) : Nat := 4294967295 - x
def crcByte (r x : Nat) : Nat := crcRow ((r % 256) ^^^ x) ^^^ (r / 256)
def crcReg (r : Nat) (b : List UInt8) : Nat := b.foldl (fun r x => crcByte r x.toNat) r
def crcMore (s : Nat) (b : List UInt8) : Nat := not32 (crcReg (not32 s) b)
def crcSum (b : List UInt8) : Nat := crcMore 0 b
theorem crcReg_append (r : Nat) (a b : List UInt8) : crcReg r (a ++ b) = crcReg (crcReg r a) b := by unfold crcReg; rw [List.foldl_append]
theorem crcStep_lt {x : Nat} (h : x < 4294967296) : crcStep x < 4294967296 := by
  unfold crcStep
  split
  · exact Nat.xor_lt_two_pow (n := 32) (by omega) (by omega)
  · omega
theorem crcIter_lt {x : Nat} (h : x < 4294967296) (n : Nat) : crcIter n x < 4294967296 := by
  induction n with
  | zero => exact h
  | succ n ih => exact crcStep_lt ih
theorem crcRow_lt {x : Nat} (h : x < 4294967296) : crcRow x < 4294967296 := crcIter_lt h 8
theorem crcByte_lt {r x : Nat} (hr : r < 4294967296) (hx : x < 256) : crcByte r x < 4294967296 := by
  unfold crcByte
  have h1 : (r % 256) ^^^ x < 256 := Nat.xor_lt_two_pow (n := 8) (by omega) (by omega)
  exact Nat.xor_lt_two_pow (n := 32) (crcRow_lt (by omega)) (by omega)
theorem crcReg_lt {r : Nat} (hr : r < 4294967296) (b : List UInt8) : crcReg r b < 4294967296 := by
  unfold crcReg
  induction b generalizing r with
  | nil => exact hr
  | cons x b ih => exact ih (crcByte_lt hr x.toNat_lt)
theorem not32_lt (x : Nat) : not32 x < 4294967296 := by unfold not32; omega
theorem not32_not32 {x : Nat} (h : x < 4294967296) : not32 (not32 x) = x := by unfold not32; omega

theorem xor_u32 (a b : Nat) (ha : a < 4294967296) (hb : b < 4294967296) : bits .xor .u32 (a : Int) (b : Int) = ((a ^^^ b : Nat) : Int) := by
  have hx : a ^^^ b < 2 ^ 32 := Nat.xor_lt_two_pow (by omega) (by omega)
  have h1 : (BitVec.ofInt 32 (a : Int)).toNat = a := by
    rw [BitVec.ofInt_natCast, BitVec.toNat_ofNat]; exact Nat.mod_eq_of_lt (by omega)
  have h2 : (BitVec.ofInt 32 (b : Int)).toNat = b := by
    rw [BitVec.ofInt_natCast, BitVec.toNat_ofNat]; exact Nat.mod_eq_of_lt (by omega)
  show IntKind.u32.wrap ((BitVec.ofInt 32 (a : Int) ^^^ BitVec.ofInt 32 (b : Int)).toNat : Int) = _
  rw [BitVec.toNat_xor, h1, h2]
  simp [IntKind.wrap, IntKind.bits, IntKind.signed]
  omega
theorem xor_u8 (a b : Nat) (ha : a < 256) (hb : b < 256) : bits .xor .u8 (a : Int) (b : Int) = ((a ^^^ b : Nat) : Int) := by
  have hx : a ^^^ b < 2 ^ 8 := Nat.xor_lt_two_pow (by omega) (by omega)
  have h1 : (BitVec.ofInt 8 (a : Int)).toNat = a := by
    rw [BitVec.ofInt_natCast, BitVec.toNat_ofNat]; exact Nat.mod_eq_of_lt (by omega)
  have h2 : (BitVec.ofInt 8 (b : Int)).toNat = b := by
    rw [BitVec.ofInt_natCast, BitVec.toNat_ofNat]; exact Nat.mod_eq_of_lt (by omega)
  show IntKind.u8.wrap ((BitVec.ofInt 8 (a : Int) ^^^ BitVec.ofInt 8 (b : Int)).toNat : Int) = _
  rw [BitVec.toNat_xor, h1, h2]
  simp [IntKind.wrap, IntKind.bits, IntKind.signed]
  omega
theorem and1_u32 (a : Nat) (ha : a < 4294967296) : bits .and .u32 (a : Int) 1 = ((a % 2 : Nat) : Int) := by
  have h1 : (BitVec.ofInt 32 (a : Int)).toNat = a := by
    rw [BitVec.ofInt_natCast, BitVec.toNat_ofNat]; exact Nat.mod_eq_of_lt (by omega)
  show IntKind.u32.wrap ((BitVec.ofInt 32 (a : Int) &&& BitVec.ofInt 32 1).toNat : Int) = _
  rw [BitVec.toNat_and, h1, show (BitVec.ofInt 32 1).toNat = 1 from rfl, Nat.and_one_is_mod]
  simp [IntKind.wrap, IntKind.bits, IntKind.signed]
  omega

theorem not_nat (x : Nat) (h : x < 4294967296) : 4294967295 ^^^ x = 4294967295 - x := by
  refine Nat.eq_of_testBit_eq fun i => ?_
  have e1 : (4294967295 : Nat) = 2 ^ 32 - 1 := by decide
  have e2 : (4294967295 : Nat) - x = 2 ^ 32 - (x + 1) := by omega
  rw [Nat.testBit_xor, e2, Nat.testBit_two_pow_sub_succ (by omega), e1, Nat.testBit_two_pow_sub_one]
  by_cases hi : i < 32
  · simp [hi]
  · have : x.testBit i = false := Nat.testBit_lt_two_pow (Nat.lt_of_lt_of_le h (by rw [show (4294967296 : Nat) = 2 ^ 32 by decide]; exact Nat.pow_le_pow_right (by omega) (by omega)))
    simp [hi, this]
theorem not_u32 (x : Nat) (h : x < 4294967296) : bits .xor .u32 IntKind.u32.max (x : Int) = ((not32 x : Nat) : Int) := by
  have h1 := xor_u32 4294967295 x (by omega) h
  rw [not_nat x h] at h1
  exact h1
/-- What a table's cells are; row: what is known of its rows. -/
structure TabC (C : Array Value) (st d mk : Nat) (row : Nat → Option Nat) : Prop where
  size : C.size = 260
  done : C[0]? = some (.int .u32 (d : Nat))
  state : C[1]? = some (.int .i32 (st : Nat))
  made : C[3]? = some (.int .u32 (mk : Nat))
  any : ∀ i, i < 256 → ∃ x, C[4 + i]? = some x
  rows : ∀ i, i < 256 → ∀ x, row i = some x → C[4 + i]? = some (.int .u32 (x : Nat))
set_option maxRecDepth 100000 in
set_option maxHeartbeats 3200000 in
theorem makeT_calls (w : World) (p st d mk : Nat) (T : TypeId) (C : Array Value) (hb : BlkAt w p T C) (hC : TabC C st d mk (fun _ => none)) :
    Calls Try.prog 79 #[.pointer (some ⟨p, 0, none⟩)] w (fun e w' => e = .returned (.tuple #[]) ∧ ∃ C', BlkAt w' p T C' ∧ TabC C' st d 1 (fun i => some (crcRow i)) ∧ Fr (eqB p) w w') := by
  go_enter Try.func79, Try.ntmps79
  go_wp2_with fail
  go_loopw [5] (fun i wr => ∃ (k : Nat) (D : Array Value), k ≤ 256 ∧ i = .int .i64 k ∧ BlkAt wr p T D ∧ TabC D st d mk (fun j => if j < k then some (crcRow j) else none) ∧ Fr (eqB p) w wr) (fun i _ => 256 - (intOf i).toNat)
  case atStart => exact ⟨0, C, by omega, rfl, hb, ⟨hC.size, hC.done, hC.state, hC.made, hC.any, fun i _ x hx => by simp at hx⟩, Fr.refl _ _⟩
  case round =>
    clear hb hC
    obtain ⟨k, D, hk, rfl, hb, hC, hf⟩ := hrel
    by_cases hk6 : k < 256
    · obtain ⟨wo, rfl⟩ : ∃ wo : World, wo = wr := ⟨_, rfl⟩
      go_wp2_with fail
      go_loop [3, 10] (fun v i => ∃ (j : Nat) (x : Nat), j ≤ 8 ∧ i = .int .i64 j ∧ v = .int .u32 x ∧ Hid (x = crcIter j k) ∧ x < 4294967296) (fun _ i => 8 - (intOf i).toNat)
      case atStart => exact ⟨0, k, by omega, rfl, rfl, rfl, by omega⟩
      case round =>
        obtain ⟨j, x, hj, rfl, rfl, HX, hx⟩ := hrel
        by_cases hj8 : j < 8
        · have hand := and1_u32 x hx
          have hxor := xor_u32 (x / 2) 3988292384 (by omega) (by omega)
          have hlt := crcStep_lt hx
          by_cases h1 : x % 2 = 1
          · have HS : Hid ((x / 2) ^^^ 3988292384 = crcIter (j + 1) k) := by unfold Hid; rw [crcIter, ← HX.out, crcStep, if_pos h1]
            have hlt2 : (x / 2) ^^^ 3988292384 < 4294967296 := by rw [crcStep, if_pos h1] at hlt; exact hlt
            rw [h1] at hand
            have hx2 : x / 2 < 4294967296 := by omega
            have hcast : ((x : Int) / 2) = ((x / 2 : Nat) : Int) := by omega
            have H1 := hid h1
            clear h1 hlt
            generalize hy : x / 2 = y at *
            have HY := hid hy; clear hy
            generalize (y ^^^ 3988292384) = z at *
            go_wp2_with fail
            go_round
            case rel => exact ⟨j + 1, z, by omega, by go_num, congrArg (Value.int .u32) hxor, HS, hlt2⟩
            case measure => simp [intOf]; omega
          · have h0 : x % 2 = 0 := by omega
            have HS : Hid (x / 2 = crcIter (j + 1) k) := by unfold Hid; rw [crcIter, ← HX.out, crcStep, if_neg h1]
            rw [h0] at hand
            have H1 := hid h1
            clear h1 h0 hlt hxor
            go_wp2_with fail
            go_round
            case rel => exact ⟨j + 1, x / 2, by omega, by go_num, by go_num, HS, by omega⟩
            case measure => simp [intOf]; omega
        · have : j = 8 := by omega
          subst this
          have hcell := hb.cell (k := 4 + k) (hC.any k hk6).choose_spec
          have hfree := hb.free (4 + k)
          generalize (hC.any k hk6).choose = old at *
          have hb2 := hb.set (4 + k) (.int .u32 (x : Nat))
          have hC2 : TabC (D.setIfInBounds (4 + k) (.int .u32 (x : Nat))) st d mk (fun j => if j < k + 1 then some (crcRow j) else none) := by
            have hs := hC.size
            refine ⟨by simpa using hs, by rw [sib_ne (by omega)]; exact hC.done, by rw [sib_ne (by omega)]; exact hC.state, by rw [sib_ne (by omega)]; exact hC.made, fun i hi => ?_, fun i hi y hy => ?_⟩
            · by_cases e : i = k
              · subst e; exact ⟨_, sib_eq (by omega)⟩
              · rw [sib_ne (by omega)]; exact hC.any i hi
            · by_cases e : i = k
              · subst e
                rw [if_pos (by omega)] at hy
                injection hy with hy
                rw [sib_eq (by omega), ← hy, HX.out]; rfl
              · rw [sib_ne (by omega)]
                refine hC.rows i hi y ?_
                by_cases hik : i < k
                · rw [if_pos (by omega)] at hy; rw [if_pos hik]; exact hy
                · rw [if_neg (by omega)] at hy; cases hy
          have hf2 := hf.then' (fr_set1 wo p (4 + k) (.int .u32 (x : Nat)))
          have HB2 := hid (And.intro hb2 (And.intro hC2 hf2))
          clear hb hC hb2 hC2 hf hf2
          go_wp2_with fail
          go_roundw
          case rel => exact ⟨k + 1, _, by omega, by go_num, HB2.out.1, HB2.out.2.1, HB2.out.2.2⟩
          case measure => simp [intOf]; omega
    · have : k = 256 := by omega
      subst this
      have hc3 := hb.cell hC.made
      have hz3 := hb.free 3
      have hst := storeB_calls ⟨p, 3, none⟩ _ wr hc3 hz3
      have hC2 : TabC (D.setIfInBounds 3 (.int .u32 1)) st d 1 (fun i => some (crcRow i)) := by
        have hs := hC.size
        refine ⟨by simpa using hs, by rw [sib_ne (by omega)]; exact hC.done, by rw [sib_ne (by omega)]; exact hC.state, by rw [sib_eq (by omega)]; rfl, fun i hi => by rw [sib_ne (by omega)]; exact hC.any i hi, fun i hi y hy => ?_⟩
        rw [sib_ne (by omega)]
        exact hC.rows i hi y (by rw [if_pos hi]; exact hy)
      have HB2 := hid (And.intro (hb.drew.set 3 (.int .u32 1)) (And.intro hC2 (hf.drew.then' (fr_set1 wr.drew p 3 (.int .u32 1)))))
      clear hb hC hC2 hf
      go_wp2_with fail
      refine hst.mono ?_
      rintro e w5 ⟨rfl, rfl⟩
      go_wp2_with fail
      go_end0
      exact ⟨rfl, _, HB2.out.1, HB2.out.2.1, HB2.out.2.2⟩
set_option maxRecDepth 100000 in
set_option maxHeartbeats 1600000 in
theorem doSlow_calls (w : World) (p : Nat) (T : TypeId) (C : Array Value) (hb : BlkAt w p T C) (mk : Nat) (hC : TabC C 0 0 mk (fun _ => none)) :
    Calls Try.prog 82 #[.pointer (some ⟨p, 0, none⟩), .func (.func 79) #[.pointer (some ⟨p, 0, none⟩)] #[]] w (fun e w' => e = .returned (.tuple #[]) ∧ ∃ C', BlkAt w' p T C' ∧ TabC C' 0 1 1 (fun i => some (crcRow i)) ∧ Fr (eqB p) w w') := by
  have c1 := hb.cell hC.state
  have z1 := hb.free 1
  have hb2 := hb.set 1 (.int .i32 1)
  have hs := hC.size
  have hC2 : TabC (C.setIfInBounds 1 (.int .i32 1)) 1 0 mk (fun _ => none) :=
    ⟨by simpa using hs, by rw [sib_ne (by omega)]; exact hC.done, by rw [sib_eq (by omega)]; rfl, by rw [sib_ne (by omega)]; exact hC.made, fun i hi => by rw [sib_ne (by omega)]; exact hC.any i hi, fun i _ x hx => by cases hx⟩
  have hl := loadB_calls ⟨p, 0, none⟩ 0 _ (hb2.cell hC2.done) (by omega)
  have hm := makeT_calls _ p 1 0 mk T _ hb2 hC2
  have f2 := fr_set1 w p 1 (.int .i32 1)
  have hlk := lock_free ⟨p, 1, none⟩ w c1 z1
  clear hb hC hC2 hb2 hs
  have F2 := hid f2; clear f2
  go_enter_defers Try.func82, Try.ntmps82
  go_wp2_with fail
  refine hlk.mono ?_
  rintro e w' ⟨rfl, rfl⟩
  go_wp2_with fail
  refine hl.mono ?_
  rintro e w' ⟨rfl, rfl⟩
  go_wp2_with fail
  refine hm.mono ?_
  rintro e w5 ⟨rfl, C5, hb5, hC5, f5⟩
  clear hm hl hlk c1 z1
  go_wp2_with fail
  -- the door
  refine leaves_cons (f := 83) (args := #[.pointer (some ⟨p, 0, none⟩), .bool true]) (by simp) (by simp [go_sem]) ?_
  refine (storeB_deferred ⟨p, 0, none⟩ _ .returning w5 (hb5.cell hC5.done) (hb5.free 0)).mono ?_
  rintro e u' w'' ⟨rfl, rfl, rfl⟩
  have hb6 := hb5.drew.set 0 (.int .u32 1)
  have f6 := fr_set1 w5.drew p 0 (.int .u32 1)
  have hs := hC5.size
  have hC6 : TabC (C5.setIfInBounds 0 (.int .u32 1)) 1 1 1 (fun i => some (crcRow i)) :=
    ⟨by simpa using hs, by rw [sib_eq (by omega)]; rfl, by rw [sib_ne (by omega)]; exact hC5.state, by rw [sib_ne (by omega)]; exact hC5.made, fun i hi => by rw [sib_ne (by omega)]; exact hC5.any i hi, fun i hi x hx => by rw [sib_ne (by omega)]; exact hC5.rows i hi x hx⟩
  refine leaves_cons (f := 87) (args := #[.pointer (some ⟨p, 1, none⟩)]) (by simp [settle]) (by simp [go_sem]) ?_
  refine (unlock_deferred ⟨p, 1, none⟩ _ _ (hb6.cell hC6.state) (hb6.free 1)).mono ?_
  rintro e u' w'' ⟨rfl, rfl, rfl⟩
  have hb7 := hb6.set 1 (.int .i32 0)
  have f7 := fr_set1 (w5.drew.setCell ⟨p, 0, none⟩ (.int .u32 1)) p 1 (.int .i32 0)
  have hs6 := hC6.size
  have hC7 : TabC ((C5.setIfInBounds 0 (.int .u32 1)).setIfInBounds 1 (.int .i32 0)) 0 1 1 (fun i => some (crcRow i)) :=
    ⟨by simpa using hs6, by rw [sib_ne (by omega)]; exact hC6.done, by rw [sib_eq (by omega)]; rfl, by rw [sib_ne (by omega)]; exact hC6.made, fun i hi => by rw [sib_ne (by omega)]; exact hC6.any i hi, fun i hi x hx => by rw [sib_ne (by omega)]; exact hC6.rows i hi x hx⟩
  have hall : Fr (eqB p) w ((w5.drew.setCell ⟨p, 0, none⟩ (.int .u32 1)).setCell ⟨p, 1, none⟩ (.int .i32 0)) := ((F2.out.then' f5).drew.then' f6).then' f7
  have hfin : ∃ C', BlkAt ((w5.drew.setCell ⟨p, 0, none⟩ (.int .u32 1)).setCell ⟨p, 1, none⟩ (.int .i32 0)) p T C' ∧ TabC C' 0 1 1 (fun i => some (crcRow i)) ∧ Fr (eqB p) w ((w5.drew.setCell ⟨p, 0, none⟩ (.int .u32 1)).setCell ⟨p, 1, none⟩ (.int .i32 0)) := ⟨_, hb7, hC7, hall⟩
  clear hb5 hC5 f5 hb6 f6 hs hC6 hb7 f7 hs6 hC7 hall F2
  have HFIN := hid hfin; clear hfin
  simp only [Leaves, settle, results, Try.results82]
  simp
  exact HFIN.out
/-- A Table, made or not, in the block p. -/
def TabAt (w : World) (p : Nat) (made : Bool) : Prop := ∃ T C, BlkAt w p T C ∧ TabC C 0 (if made then 1 else 0) (if made then 1 else 0) (fun i => if made then some (crcRow i) else none)
theorem TabAt.fr {S : Nat → Prop} {w w' : World} {p : Nat} {m : Bool} (h : TabAt w p m) (f : Fr S w w') (hp : ¬ S p) : TabAt w' p m := by
  obtain ⟨T, C, h1, h2⟩ := h
  exact ⟨T, C, h1.fr f hp, h2⟩
theorem TabAt.lt {w : World} {p : Nat} {m : Bool} (h : TabAt w p m) : p < w.heap.size := by
  obtain ⟨T, C, h1, _⟩ := h
  exact h1.lt
theorem do_calls (w : World) (p : Nat) (m : Bool) (h : TabAt w p m) :
    Calls Try.prog 78 #[.pointer (some ⟨p, 0, none⟩), .func (.func 79) #[.pointer (some ⟨p, 0, none⟩)] #[]] w (fun e w' => e = .returned (.tuple #[]) ∧ TabAt w' p true ∧ Fr (eqB p) w w') := by
  obtain ⟨T, C, hb, hC⟩ := h
  have hl := loadB_calls ⟨p, 0, none⟩ _ w (hb.cell hC.done) (by split <;> omega)
  cases m with
  | true =>
    simp only [if_true] at hl
    have HB := hid hb
    have HC := hid hC
    clear hb hC
    go_enter Try.func78, Try.ntmps78
    go_wp2_with fail
    refine hl.mono ?_
    rintro e w' ⟨rfl, rfl⟩
    go_wp2_with fail
    go_end0
    exact ⟨rfl, ⟨T, C, HB.out, HC.out⟩, Fr.refl _ _⟩
  | false =>
    simp only [Bool.false_eq_true, if_false] at hl
    have hds := doSlow_calls w p T C hb 0 (by simpa using hC)
    clear hb hC
    go_enter Try.func78, Try.ntmps78
    go_wp2_with fail
    refine hl.mono ?_
    rintro e w' ⟨rfl, rfl⟩
    go_wp2_with fail
    refine hds.mono ?_
    rintro e w' ⟨rfl, C', hb', hC', f'⟩
    go_wp2_with fail
    go_end0
    exact ⟨rfl, ⟨T, C', hb', by simpa using hC'⟩, f'⟩
theorem newT_calls (w : World) : Calls Try.prog 46 #[] w (fun e w' => e = .returned (.pointer (some ⟨w.heap.size, 0, none⟩)) ∧ TabAt w' w.heap.size false ∧ Fr noB w w' ∧ w'.heap.size = w.heap.size + 1) := by
  have hsz : Try.zeroCells140.size = 260 := by kernel_rfl
  have h0 : Try.zeroCells140[0]? = some (.int .u32 0) := by kernel_rfl
  have h1 : Try.zeroCells140[1]? = some (.int .i32 0) := by kernel_rfl
  have h3 : Try.zeroCells140[3]? = some (.int .u32 0) := by kernel_rfl
  have hT : TabAt (w.alloc (.cells Try.zeroCells140 140)) w.heap.size false :=
    ⟨_, _, heap_alloc_new w _, ⟨hsz, h0, h1, h3, fun i hi => ⟨_, Array.getElem?_eq_getElem (by omega)⟩, fun i _ x hx => by simp at hx⟩⟩
  have HT := hid hT
  clear hsz h0 h1 h3 hT
  go_enter Try.func46, Try.ntmps46
  go_wp2_with fail
  go_ret
  exact ⟨rfl, HT.out, (Fr.refl noB w).alloc _, by simp⟩
set_option maxRecDepth 100000 in
set_option maxHeartbeats 3200000 in
theorem moreT_calls (w : World) (p : Nat) (m : Bool) (s : Nat) (A : Option Addr) (n c : Nat) (b : List UInt8) (h : TabAt w p m) (hs : s < 4294967296) (hr : RowAt w A (bcells b)) (HN : Hid (b.length = n)) (hn : n ≤ 1000000000000) (hA : ∀ a, A = some a → 0 < n → a.block ≠ p) :
    Calls Try.prog 72 #[.pointer (some ⟨p, 0, none⟩), .int .u32 s, .slice A n c] w (fun e w' => e = .returned (.int .u32 (crcMore s b : Nat)) ∧ TabAt w' p true ∧ Fr (eqB p) w w') := by
  have hmf : ∀ (fn : Fn) (first cap : Array Value) (w : World), (Instr.makeFunc fn first cap).run Try.prog w = .ok (.func fn first cap) w := fun _ _ _ _ => rfl
  have hdo := do_calls w p m h
  have hnt := not_u32 s hs
  obtain ⟨r0, HR0⟩ : ∃ r0, Hid (not32 s = r0) := ⟨_, rfl⟩
  rw [HR0.out] at hnt
  have hsg : IntKind.u32.signed = false := rfl
  go_enter Try.func72, Try.ntmps72
  go_wp2_with fail
  refine hdo.mono ?_
  rintro e w1 ⟨rfl, h1, f1⟩
  clear hdo
  go_wp2_with fail
  obtain ⟨T, C, hb, hC⟩ := h1
  have HC1 := hid (And.intro hb hC)
  have hr0 : r0 < 4294967296 := by rw [← HR0.out]; exact not32_lt s
  have hrow : RowAt w1 A (bcells b) := hr.fr f1 (fun a e h0 _ hk => hA a e (by rw [bcells_length, HN.out] at h0; exact h0) hk)
  have F1 := hid f1
  clear hr f1 hb
  go_loop [7, 20] (fun v i => ∃ (k r : Nat), k ≤ n ∧ i = .int .i64 k ∧ v = .int .u32 r ∧ Hid (r = crcReg r0 (b.take k)) ∧ r < 4294967296) (fun _ i => n - (intOf i).toNat)
  case atStart => exact ⟨0, r0, Nat.zero_le _, rfl, rfl, rfl, hr0⟩
  case round =>
    obtain ⟨k, r, hk, rfl, rfl, HR, hlt⟩ := hrel
    by_cases hkn : k < n
    · obtain ⟨x, hx⟩ : ∃ x, b[k]? = some x := ⟨_, List.getElem?_eq_getElem (by rw [HN.out]; exact hkn)⟩
      obtain ⟨a, rfl⟩ := hrow.some_of (by rw [bcells_length, HN.out]; omega)
      have hcx := hrow.cell (j := k) (u := .int .u8 x.toNat) (by simp only [bcells, List.getElem?_map, hx]; rfl)
      have hx256 := x.toNat_lt
      have HS : Hid (crcByte r x.toNat = crcReg r0 (b.take (k + 1))) := by
        unfold Hid; rw [take_snoc' hx, crcReg_append, ← HR.out]; rfl
      have hltz := crcByte_lt hlt hx256
      obtain ⟨xn, HX⟩ : ∃ xn, Hid (x.toNat = xn) := ⟨_, rfl⟩
      rw [HX.out] at hcx hx256 HS hltz
      obtain ⟨y, HY⟩ : ∃ y, Hid ((r % 256) ^^^ xn = y) := ⟨_, rfl⟩
      have hx8 : bits .xor .u8 ((r : Int) % 256) (xn : Int) = (y : Int) := by
        have := xor_u8 (r % 256) xn (by omega) hx256
        rw [HY.out] at this
        exact this
      have hy256 : y < 256 := by rw [← HY.out]; exact Nat.xor_lt_two_pow (n := 8) (by omega) (by omega)
      have hcell := HC1.out.1.cell (HC1.out.2.rows y hy256 (crcRow y) (by simp))
      have hry : crcRow y < 4294967296 := crcRow_lt (by omega)
      obtain ⟨z, HZ⟩ : ∃ z, Hid (crcRow y ^^^ (r / 256) = z) := ⟨_, rfl⟩
      have hx32 : bits .xor .u32 ((crcRow y : Nat) : Int) ((r : Int) / 256) = (z : Int) := by
        have := xor_u32 (crcRow y) (r / 256) hry (by omega)
        rw [HZ.out] at this
        exact this
      have HE : Hid (crcByte r xn = z) := by unfold Hid crcByte; rw [HY.out, HZ.out]
      rw [HE.out] at hltz HS
      generalize crcRow y = ry at *
      clear hx
      go_wp2_with fail
      go_round
      case rel => exact ⟨k + 1, z, by omega, by go_num, rfl, HS, hltz⟩
      case measure => simp [intOf]; omega
    · have : k = n := by omega
      subst this
      have hfin : Hid (crcMore s b = not32 r) := by
        unfold Hid crcMore; rw [HR.out, List.take_of_length_le (by rw [HN.out]; exact Nat.le_refl _), HR0.out]
      have hn2 := not_u32 r hlt
      go_wp2_with fail
      go_ret
      rw [hfin.out]
      exact ⟨by first | rfl | exact congrArg (fun v => Ending.returned (.int .u32 v)) hn2, ⟨T, C, HC1.out.1, HC1.out.2⟩, F1.out⟩
theorem sumT_calls (w : World) (p : Nat) (m : Bool) (A : Option Addr) (n c : Nat) (b : List UInt8) (h : TabAt w p m) (hr : RowAt w A (bcells b)) (HN : Hid (b.length = n)) (hn : n ≤ 1000000000000) (hA : ∀ a, A = some a → 0 < n → a.block ≠ p) :
    Calls Try.prog 47 #[.pointer (some ⟨p, 0, none⟩), .slice A n c] w (fun e w' => e = .returned (.int .u32 (crcSum b : Nat)) ∧ TabAt w' p true ∧ Fr (eqB p) w w') := by
  have hm := moreT_calls w p m 0 A n c b h (by omega) hr HN hn hA
  clear hr hA
  go_enter Try.func47, Try.ntmps47
  go_wp2_with fail
  refine hm.mono ?_
  rintro e w' ⟨rfl, h1, f1⟩
  go_wp2_with fail
  go_ret
  exact ⟨rfl, h1, f1⟩
theorem new_rowF (w : World) (C : Array Value) (t : TypeId) (fz : Nat × Nat) : RowAt (w.alloc (.cells C t fz)) (some ⟨w.heap.size, 0, none⟩) C.toList := fun j u hu => by
  refine ⟨_, rfl, ?_⟩
  have e : (⟨w.heap.size, 0, none⟩ : Addr).add j = ⟨w.heap.size, j, none⟩ := by unfold Addr.add; split <;> simp_all
  rw [e, cell_of_row _ _ _ _ _ _ (heap_alloc_new w _)]
  simpa using hu
end Go.Proofs.Ytnkdlmmdaagonaa
