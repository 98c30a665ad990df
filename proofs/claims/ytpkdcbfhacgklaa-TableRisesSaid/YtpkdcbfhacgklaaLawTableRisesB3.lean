/- What the row leans on, part 3: contracts and plain laws. -/
import Derived.Test.YtpkdcbfhacgklaaProg
import Derived.WalkKit
import Derived.Maps.AppendAt
import Derived.Lib.AppendStr
import Derived.Laws.AppendOwnNone
import Derived.Deep.Draws
import Derived.SliceStrings
import Derived.Deep.Slices
import Derived.WalkSpells
import Derived.Laws.IdiomStrings
import Derived.Lib.ConvBytes
import Derived.Laws.Bits64b
import Derived.Deep.Cut
import Derived.Lib.LaidTab
import Derived.LaidSub
import Derived.Deep.QuietTactic
import Derived.BigQuiet
import Derived.Lib.OthersKept
import Derived.Laws.RangeAny
import Derived.LaidEqlPtr
import Derived.Laws.StructEq
import Derived.Deep.RegionHeld3
import Derived.Laws.MakeOwn
import Derived.Deep.MidRow
import Derived.Laws.ResultCell
import Derived.Deep.Light
import Derived.Maps.OwnOps
import Derived.Maps.Views
import Derived.WideKeyPair
import Derived.WideKeyEntry
import Derived.Test.YtpkdcbfhacgklaaLawTableRisesB2
/- table.Write. -/
namespace Go.Proofs.Ytpkdcbfhacgklaa
open Go.RowKit
theorem wpList_index {P : Program} {ops : Array Oper} {rest : List Oper} {o : Oper} {a : Act} {w : World} {Q : Exit → Act → World → Prop} (hgd : o.guard = none) (ty : TypeId) (x i : Operand) (ho : o.op = .index ty x i)
    {X I v : Value} (hx : a.eval x = X) (hi : a.eval i = I) (hr : (Instr.index ty X I).run P w = .ok v w) (h : wpList P ops Q rest (a.put o.dst v) w) : wpList P ops Q (o :: rest) a w := by
  refine wpList_plain hgd fun K hK => ?_
  unfold Oper.wp execOp
  simp only [ho, hx, hi, Sem.run_bind, Sem.run_pure, hr, Result.andThen_ok]
  exact hK _ _ h
theorem flatC_len (R : List TRow) : (R.flatMap TRow.C).length = 3 * R.length := by
  induction R with
  | nil => rfl
  | cons r R ih => rw [List.flatMap_cons, List.length_append, ih, List.length_cons]; simp [TRow.C]; omega
theorem tab_range {w : World} {U : Nat → Prop} {p : Nat} {R : List TRow} (h : TblAt w U p R) : w.rangeAt p 0 (R.flatMap TRow.C) :=
  fun j v hv => by rw [Nat.zero_add]; exact h.blk.cell (by simpa using hv)
theorem tab_size {w : World} {U : Nat → Prop} {p : Nat} {R : List TRow} (h : TblAt w U p R) : (Try.prog.info? 115).map (·.size) = some (R.flatMap TRow.C).length := by
  rw [flatC_len, h.len]; kernel_rfl
theorem tab_index {R : List TRow} {i : Nat} {r : TRow} (hl : R.length = 8) (hr : R[i]? = some r) (w : World) : (Instr.index 115 (.agg (R.flatMap TRow.C).toArray) (.int .i64 i)).run Try.prog w = .ok (.agg #[.int .u64 r.num, .int .i64 r.e, .slice r.A r.n r.c]) w := by
  have hi : i < 8 := by have := (List.getElem?_eq_some_iff.1 hr).1; omega
  have hu : Try.prog.underlying 115 = some (.array 8 114) := Try.underlying115
  have hs : (sizeOf 114).run Try.prog w = .ok 3 w := by kernel_rfl
  have h1 : 0 ≤ (i : Int) ∧ (i : Int) < (8 : Nat) := ⟨by omega, by omega⟩
  unfold Instr.index
  simp only [asIntOf, Sem.run_bind, Sem.run_pure, Result.andThen_ok, run_underlying hu w, h1, and_self, if_true, hs]
  have ha : (isAgg 114).run Try.prog w = .ok true w := by kernel_rfl
  have he : (R.flatMap TRow.C).toArray.extract (i * 3) (i * 3 + 3) = #[.int .u64 r.num, .int .i64 r.e, .slice r.A r.n r.c] := by
    have hg := fun j b => flat_get TRow.C 3 (fun _ => rfl) R i j r b hr
    have hlen : i * 3 + 3 ≤ (R.flatMap TRow.C).length := by rw [flatC_len, hl]; omega
    apply Array.ext'
    apply List.ext_getElem?
    intro j
    simp only [Array.toList_extract, List.extract_eq_take_drop, List.getElem?_take, List.getElem?_drop]
    by_cases hj : j < 3
    · rw [if_pos (by omega)]
      rcases (by omega : j = 0 ∨ j = 1 ∨ j = 2) with rfl | rfl | rfl
      · exact hg 0 _ rfl
      · exact hg 1 _ rfl
      · exact hg 2 _ rfl
    · rw [if_neg (by omega)]
      rcases j with _ | _ | _ | j <;> first | omega | rfl
  unfold part
  simp only [Sem.run_bind, ha, Result.andThen_ok, if_true, hs, Sem.run_pure, Int.toNat_natCast, he]
/-- A row's bytes. -/
def rowT (x : T3) : List UInt8 := leB 8 x.1 ++ (if 0 < x.1 then textB (mkS (repB x.2.1 x.2.2)) else [])
def tblB (t : List T3) : List UInt8 := t.flatMap rowT
theorem repB_length (e : Nat) (l : List ByteArray) : (repB e l).length ≤ 3 + sumSz l := by
  have h1 := rowB_length (if e = 0 then l else [])
  have h2 : sumSz (if e = 0 then l else []) ≤ sumSz l := by split; exact Nat.le_refl _; simp [sumSz]
  unfold repB; rw [List.length_append, leB_length]; omega
theorem rowT_length {x : T3} (h : sumSz x.2.2 ≤ 1000000) : (rowT x).length ≤ 1000100 := by
  unfold rowT
  rw [List.length_append, leB_length]
  split
  · have h1 := textB_length (mkS (repB x.2.1 x.2.2))
    have h2 := repB_length x.2.1 x.2.2
    rw [mkS_size] at h1; omega
  · simp
theorem tblB_length : ∀ (t : List T3), (∀ x ∈ t, sumSz x.2.2 ≤ 1000000) → (tblB t).length ≤ 1000100 * t.length
  | [], _ => by simp [tblB]
  | x :: t, h => by
    have h1 := rowT_length (h x (by simp))
    have h2 := tblB_length t (fun y hy => h y (by simp [hy]))
    unfold tblB at *
    rw [List.flatMap_cons, List.length_append, List.length_cons]; omega
set_option maxRecDepth 100000 in
set_option maxHeartbeats 1600000 in
theorem writeT_calls (w : World) (p q n1 : Nat) (R : List TRow) (U : Nat → Prop) (bs : List UInt8) (h : TblAt w U p R) (hw : WrAt w (upB n1) q bs) (hU : ∀ k, U k → k < n1) (hn1 : n1 ≤ w.heap.size) (hbs : bs.length ≤ 1000000) :
    Calls Try.prog 61 #[.pointer (some ⟨p, 0, none⟩), .pointer (some ⟨q, 0, none⟩)] w
      (fun e w' => e = .returned (.tuple #[]) ∧ WrAt w' (upB n1) q (bs ++ tblB (R.map TRow.abs)) ∧ Fr (upB n1) w w') := by
  have hrg := tab_range h
  have hsz := tab_size h
  have hidx := fun (i : Nat) (r : TRow) (hr : R[i]? = some r) W => tab_index h.len hr W
  have hlen := h.len
  have HB : Hid (∀ j, (bs ++ tblB ((R.map TRow.abs).take j)).length ≤ 20000000) := fun j => by
    have h1 := tblB_length ((R.map TRow.abs).take j) (fun x hx => by
      obtain ⟨r, hr, rfl⟩ := List.mem_map.1 (List.mem_of_mem_take hx)
      exact (h.rows r hr).sum)
    have h2 : ((R.map TRow.abs).take j).length ≤ 8 := by rw [List.length_take, List.length_map, hlen]; omega
    rw [List.length_append]; omega
  clear hbs
  go_enter Try.func61, Try.ntmps61
  go_wp2_with (refine wpList_load_mid rfl 115 (.tmp 8) rfl p 0 rfl (R.flatMap TRow.C) _ hrg Try.underlying115 rfl hsz ?_)
  clear hrg hsz
  go_loopw [10] (fun i wr => ∃ j : Nat, j ≤ 8 ∧ i = .int .i64 j ∧ TblAt wr U p R ∧ WrAt wr (upB n1) q (bs ++ tblB ((R.map TRow.abs).take j)) ∧ Fr (upB n1) w wr) (fun i _ => 8 - (intOf i).toNat)
  case atStart => exact ⟨0, by omega, rfl, h, by simpa [tblB] using hw, Fr.refl _ _⟩
  case round =>
    clear h hw
    obtain ⟨j, hj, rfl, ht, hwr, hf⟩ := hrel
    by_cases hj8 : j < 8
    · obtain ⟨r, hr⟩ : ∃ r, R[j]? = some r := ⟨_, List.getElem?_eq_getElem (by omega)⟩
      have hix := hidx j r hr wr
      have hat := ht.rows r (List.mem_of_getElem? hr)
      have HT : Hid (bs ++ tblB ((R.map TRow.abs).take (j + 1)) = bs ++ tblB ((R.map TRow.abs).take j) ++ rowT r.abs) := by
        unfold Hid tblB
        rw [take_snoc' (by rw [List.getElem?_map, hr]; rfl), List.flatMap_append, List.append_assoc]; simp
      have hb := HB.out j
      generalize bs ++ tblB ((R.map TRow.abs).take j) = cs at *
      have hs := hf.size
      have hb5 : BlkAt (wr.alloc (.cells #[.int .u64 r.num, .int .i64 r.e, .slice r.A r.n r.c] 114)) wr.heap.size 114 #[.int .u64 r.num, .int .i64 r.e, .slice r.A r.n r.c] := BlkAt.new _ _ _
      have f5 := (Fr.refl noB wr).alloc (.cells #[.int .u64 r.num, .int .i64 r.e, .slice r.A r.n r.c] 114)
      have hw5 := (hwr.mono (T := butB n1 wr.heap.size) fun k hk h => ⟨h, by omega⟩).fr f5 (fun _ _ _ => id)
      have ht5 := ht.fr f5 (fun _ _ _ => id)
      have F5 := hf.then' (f5.mono fun _ _ h => h.elim)
      have hs5 := al_size wr (.cells #[.int .u64 r.num, .int .i64 r.e, .slice r.A r.n r.c] 114)
      have HR := hid hr
      have hrow := hat.row.fr0 f5
      have HAT := hid hat
      obtain ⟨p5, hp5⟩ : ∃ p5, wr.heap.size = p5 := ⟨_, rfl⟩
      rw [hp5] at hb5 hs5 hw5
      clear hr ht hwr hf f5 hat
      go_upto_region 3 with (refine wpList_index rfl 115 (.tmp 9) (.tmp 10) rfl rfl rfl hix ?_)
      generalize (wr.alloc (.cells #[.int .u64 r.num, .int .i64 r.e, .slice r.A r.n r.c] 114)) = wa at *
      obtain ⟨x0, x1, x2, xf⟩ := BlkAt.c3 hb5
      have hge5 : n1 ≤ p5 := by omega
      clear hix
      go_wp2_with fail
      refine (eight_calls wa (butB n1 p5) q cs r.num hw5 (by omega)).mono ?_
      rintro e w3 ⟨rfl, h3, f3⟩
      have hw3 := h3.but (by omega) (by omega)
      have hb3 := hb5.fr f3 (fun h => h.2 rfl)
      have ht3 := ht5.fr f3 (fun k _ h1 h2 => by have := hU k h1; have := h2.1; omega)
      have F3 := F5.then' (f3.mono (T := upB n1) fun _ _ h => h.1)
      have hrow3 := hrow.fr f3 (fun a ea h0 _ h => by
        have := HAT.out.blk a ea (by simp only [strs, List.length_map] at h0; have := HAT.out.len; omega)
        have := hU _ this.1; have := h.1; omega)
      have hs3 := f3.size
      have hl3 : (cs ++ leB 8 r.num).length = cs.length + 8 := by rw [List.length_append, leB_length]
      clear h3 f3 hb5 hw5 ht5 F5 hrow x0 x1 x2 xf
      obtain ⟨x0, x1, x2, xf⟩ := BlkAt.c3 hb3
      by_cases h0 : 0 < r.num
      · have t1 : decide (0 < r.num) = true := decide_eq_true h0
        have HRT : Hid (rowT r.abs = leB 8 r.num ++ textB (mkS (repB r.e r.l))) := by unfold Hid rowT TRow.abs; rw [if_pos h0]
        have hq := HAT.out
        have hput := opPut_calls w3 r.e r.A r.n r.c r.l hq.e hrow3 hq.len hq.cap hq.max (by have := hq.sum; omega) (fun a ea hn => by have := (hq.blk a ea hn).2.2; omega)
        have hrl := repB_length r.e r.l
        have hsum := hq.sum
        generalize repB r.e r.l = rb at *
        unfold BytesPost at hput
        obtain ⟨m, hm⟩ : ∃ m, rb.length = m := ⟨_, rfl⟩
        rw [hm] at hput hrl
        have HM := hid hm
        clear hm h0 hq
        go_wp2_with fail
        refine hput.mono ?_
        rintro e w4 ⟨A4, c4, rfl, h4, f4⟩
        have hst := Try.toStr (own_row h4) HM.out c4
        have hw4 := hw3.fr f4 (fun _ _ _ => id)
        have ht4 := ht3.fr f4 (fun _ _ _ => id)
        have F4 := F3.then' (f4.mono fun _ _ h => h.elim)
        have hs4 := f4.size
        clear f4 h4 hput hw3 ht3 F3 hrow3 hb3 x0 x1 x2 xf
        go_wp2_with fail
        refine (text_calls w4 (butB n1 p5) q _ (mkS rb) hw4 (by rw [mkS_size, HM.out]; unfold maxLen; omega) (by rw [mkS_size, HM.out]; omega)).mono ?_
        rintro e w5 ⟨rfl, h5, f5⟩
        have hw5 := h5.but (by omega) (by omega)
        have ht5 := ht4.fr f5 (fun k _ h1 h2 => by have := hU k h1; have := h2.1; omega)
        have F5 := F4.then' (f5.mono (T := upB n1) fun _ _ h => h.1)
        clear f5 h5 hw4 ht4 F4 hst
        go_wp2_with fail
        go_roundw
        case rel => exact ⟨j + 1, by omega, by go_num, ht5, by rw [HT.out, HRT.out, ← List.append_assoc]; exact hw5.mono fun _ _ h => h.1, F5⟩
        case measure => simp [intOf]; omega
      · have t1 : decide (0 < r.num) = false := decide_eq_false h0
        have HRT : Hid (rowT r.abs = leB 8 r.num) := by unfold Hid rowT TRow.abs; rw [if_neg h0, List.append_nil]
        clear h0
        go_wp2_with fail
        go_roundw
        case rel => exact ⟨j + 1, by omega, by go_num, ht3, by rw [HT.out, HRT.out]; exact hw3.mono fun _ _ h => h.1, F3⟩
        case measure => simp [intOf]; omega
    · have : j = 8 := by omega
      subst this
      rw [List.take_of_length_le (by rw [List.length_map, hlen]; exact Nat.le_refl _)] at hwr
      go_wp2_with fail
      go_end0
      exact ⟨rfl, hwr, hf⟩
end Go.Proofs.Ytpkdcbfhacgklaa
/- interrexlaw15: bytes, reply, few, lives. -/
namespace Go.Proofs.Ytpkdcbfhacgklaa
open Go.RowKit
theorem WrAt.made' {w : World} {n0 : Nat} (h : w.heap.size = n0) : WrAt (w.alloc (.cells #[.slice none 0 0] 123)) (upB n0) n0 [] := by
  subst h; exact WrAt.new w
theorem TblA.sums {w : World} {U : Nat → Prop} {p : Nat} {t : List T3} (h : TblA w U p t) : ∀ x ∈ t, sumSz x.2.2 ≤ 1000000 := by
  obtain ⟨R, h1, rfl⟩ := h
  intro x hx
  obtain ⟨r, hr, rfl⟩ := List.mem_map.1 hx
  exact (h1.rows r hr).sum
set_option maxRecDepth 100000 in
theorem bytesT_calls (w : World) (U : Nat → Prop) (p : Nat) (t : List T3) (h : TblA w U p t) : Calls Try.prog 22 #[.pointer (some ⟨p, 0, none⟩)] w (StrPost w (tblB t)) := by
  have hl := tblB_length t h.sums
  rw [h.len] at hl
  obtain ⟨R, hR, rfl⟩ := h
  have hm := hR.mono (V := fun k => k < w.heap.size) (fun k hk _ => hk)
  have f0 : Fr noB w (w.alloc (.cells #[.slice none 0 0] 123)) := (Fr.refl noB w).alloc _
  have hm0 := hm.fr f0 (fun _ _ _ => id)
  have hw0 := WrAt.made' (w := w) rfl
  have hs0 := al_size w (.cells #[.slice none 0 0] 123)
  have hwt := writeT_calls (w.alloc (.cells #[.slice none 0 0] 123)) p w.heap.size w.heap.size R _ [] hm0 hw0 (fun _ h => h) (by omega) (by simp)
  rw [List.nil_append] at hwt
  generalize tblB (R.map TRow.abs) = bs at *
  clear hm hm0 hw0 hR
  go_enter Try.func22, Try.ntmps22
  go_upto_region 2 with fail
  generalize hwa : (w.alloc (.cells #[.slice none 0 0] 123)) = wa at *
  clear hwa
  go_wp2_with fail
  refine hwt.mono ?_
  rintro e w1 ⟨rfl, h1, f1⟩
  have F1 := f0.trans f1 (fun i hi h => by unfold upB at h; omega)
  clear f0 f1 hwt
  go_wp2_with fail
  refine (bytes_calls w1 _ _ bs h1 (by omega)).mono ?_
  rintro e w2 ⟨A, c, rfl, h2, f2⟩
  have F2 := F1.then' f2
  have hst := Try.toStr (own_row h2) rfl c
  clear h2 f2 h1 F1
  go_wp2_with fail
  go_ret
  exact ⟨rfl, F2⟩

/-! ### Acts -/
structure ActT where
  k : Nat
  cl : Nat
  num : Nat
  e : Nat
  A : Option Addr
  n : Nat
  c : Nat
  l : List ByteArray
def ActT.C (a : ActT) : List Value := [.int .u8 a.k, .int .u8 a.cl, .int .u64 a.num, .int .u8 a.e, .slice a.A a.n a.c]
structure ActT.ok (a : ActT) : Prop where
  k : a.k < 256
  cl : a.cl < 256
  num : a.num < 18446744073709551616
  e : a.e < 256
  len : a.l.length = a.n
  cap : a.n ≤ a.c
  max : a.c ≤ 9223372036854775807
  nil : a.A = none → a.n = 0 ∧ a.c = 0
structure ActsAt (w : World) (A : Option Addr) (L : List ActT) : Prop where
  row : RowAt w A (L.flatMap ActT.C)
  sub : ∀ a ∈ L, RowAt w a.A (strs a.l)
theorem ActsAt.fr0 {w w' : World} {A : Option Addr} {L : List ActT} (h : ActsAt w A L) (f : Fr noB w w') : ActsAt w' A L := ⟨h.row.fr0 f, fun a ha => (h.sub a ha).fr0 f⟩
set_option maxRecDepth 100000 in
theorem reply15_calls (w : World) (a : ActT) : Calls Try.prog 18 #[.agg #[.int .u8 a.k, .int .u8 a.cl, .int .u64 a.num, .int .u8 a.e, .slice a.A a.n a.c]] w (fun e w' => e = .returned (.agg #[.int .i64 (a.e % 19 : Nat), .slice a.A a.n a.c]) ∧ Fr noB w w') := by
  obtain ⟨k, cl, num, e, A, n, c, l⟩ := a
  simp only []
  have f0 : Fr noB w ((w.alloc (.cells #[.int .u8 k, .int .u8 cl, .int .u64 num, .int .u8 e, .slice A n c] 31)).alloc (.cells #[.int .i64 0, .slice none 0 0] 37)) := ((Fr.refl noB w).alloc _).alloc _
  have hb0 : BlkAt ((w.alloc (.cells #[.int .u8 k, .int .u8 cl, .int .u64 num, .int .u8 e, .slice A n c] 31)).alloc (.cells #[.int .i64 0, .slice none 0 0] 37)) w.heap.size 31 #[.int .u8 k, .int .u8 cl, .int .u64 num, .int .u8 e, .slice A n c] := (BlkAt.new _ _ _).al _
  have hb1 : BlkAt ((w.alloc (.cells #[.int .u8 k, .int .u8 cl, .int .u64 num, .int .u8 e, .slice A n c] 31)).alloc (.cells #[.int .i64 0, .slice none 0 0] 37)) (w.heap.size + 1) 37 #[.int .i64 0, .slice none 0 0] := by
    have := BlkAt.new (w.alloc (.cells #[.int .u8 k, .int .u8 cl, .int .u64 num, .int .u8 e, .slice A n c] 31)) #[.int .i64 0, .slice none 0 0] 37
    rwa [al_size] at this
  have hr : Hid (Try.f18.results = #[.cell 2 37]) := by unfold Hid; kernel_rfl
  obtain ⟨e19, he19⟩ : ∃ x, e % 19 = x := ⟨_, rfl⟩
  have hce : (e : Int) % 19 = e19 := by omega
  rw [he19]
  have HE := hid he19
  clear he19
  go_enter Try.func18, Try.ntmps18
  go_upto_region 1 with fail
  generalize ((w.alloc (.cells #[.int .u8 k, .int .u8 cl, .int .u64 num, .int .u8 e, .slice A n c] 31)).alloc (.cells #[.int .i64 0, .slice none 0 0] 37)) = wa at *
  obtain ⟨x0, x1, x2, x3, x4, xf⟩ := BlkAt.c5 hb0
  obtain ⟨y0, y1, yf⟩ := BlkAt.c2 hb1
  have FF := f0.trans (fr_two wa (w.heap.size + 1) (.int .i64 e19) (.slice A n c)) (fun i hi h => by unfold eqB at h; omega)
  go_wp2_with fail
  have hr := hr.out
  exact bodyPost_ret (v := .agg #[.int .i64 e19, .slice A n c]) (by simp [results, hr, go_sem, y0, y1]) rfl ⟨rfl, FF⟩
def ActT.small (a : ActT) : Bool := decide (a.n ≤ 10) && a.l.all fun s => decide (s.size ≤ 50)
def fewT (L : List ActT) : Bool := L.all ActT.small && decide (L.length ≤ 40)
set_option maxRecDepth 100000 in
set_option maxHeartbeats 1600000 in
theorem few15_calls (w : World) (A : Option Addr) (cap n : Nat) (L : List ActT) (h : ActsAt w A L) (HN : Hid (L.length = n)) (hl : n ≤ 9223372036854775807) (hok : ∀ a ∈ L, a.ok) :
    Calls Try.prog 14 #[.slice A n cap] w (BoolPost w (fewT L)) := by
  go_enter Try.func14, Try.ntmps14
  go_wp2_with fail
  go_loopw [9] (fun i wr => ∃ k : Nat, k ≤ n ∧ i = .int .i64 k ∧ (L.take k).all ActT.small = true ∧ Fr noB w wr) (fun i _ => n - (intOf i).toNat)
  case atStart => exact ⟨0, Nat.zero_le _, rfl, by simp, Fr.refl _ _⟩
  case round =>
    obtain ⟨k, hk, rfl, ha, hf⟩ := hrel
    by_cases hkn : k < n
    · obtain ⟨a, hit⟩ : ∃ a, L[k]? = some a := ⟨_, List.getElem?_eq_getElem (by rw [HN.out]; exact hkn)⟩
      obtain ⟨ad, rfl⟩ := h.row.some_flat (by simp [ActT.C]) hit
      obtain ⟨c0, c1, c2, c3, c4⟩ := ((h.row.seg 5 (fun _ => rfl) hit).fr hf id).c5
      have hmem := List.mem_of_getElem? hit
      have HT : Hid ((L.take (k + 1)).all ActT.small = a.small) := by
        unfold Hid; rw [take_snoc' hit, List.all_append, ha]; simp
      have HF : Hid (a.small = false → fewT L = false) := fun e => by
        unfold fewT; rw [List.all_eq_false.2 ⟨a, hmem, by rw [e]; decide⟩]; rfl
      have hsub := h.sub a hmem
      have hq := hok a hmem
      have HB : Hid (a.n ≤ 10 → a.small = a.l.all fun s => decide (s.size ≤ 50)) := fun b1 => by unfold ActT.small; rw [decide_eq_true b1]; rfl
      have HB2 : Hid (¬ a.n ≤ 10 → a.small = false) := fun b1 => by unfold ActT.small; rw [decide_eq_false b1]; rfl
      have HL : Hid (a.l.length = a.n) := hq.len
      generalize a.small = ok at *
      obtain ⟨ak, acl, anum, ae, aA, m, ac, al⟩ := a
      simp only [] at *
      clear ha hmem hit hq
      by_cases b2 : m ≤ 10
      · go_wp2_with fail
        go_loop [20] (fun i => ∃ j : Nat, j ≤ m ∧ i = .int .i64 j ∧ (al.take j).all (fun s => decide (s.size ≤ 50)) = true) (fun i => m - (intOf i).toNat)
        case atStart => exact ⟨0, Nat.zero_le _, rfl, by simp⟩
        case round =>
          obtain ⟨j, hj, rfl, hja⟩ := hrel
          by_cases hjm : j < m
          · obtain ⟨s, hs⟩ : ∃ s, al[j]? = some s := ⟨_, List.getElem?_eq_getElem (by rw [HL.out]; exact hjm)⟩
            obtain ⟨ae', rfl⟩ := strs_pos hsub hs
            have hcx := cell_al (hf.cell (hsub.cell (strs_get hs)) id)
            have HS : Hid ((al.take (j + 1)).all (fun s => decide (s.size ≤ 50)) = decide (s.size ≤ 50)) := by
              unfold Hid; rw [take_snoc' hs, List.all_append, hja]; simp
            have HS2 : Hid (¬ s.size ≤ 50 → al.all (fun s => decide (s.size ≤ 50)) = false) := fun h => List.all_eq_false.2 ⟨s, List.mem_of_getElem? hs, by simpa using h⟩
            clear hja hs
            by_cases b3 : s.size ≤ 50
            · go_wp2_with fail
              go_round
              case rel => exact ⟨j + 1, by omega, by go_num, by rw [HS.out]; exact decide_eq_true b3⟩
              case measure => simp [intOf]; omega
            · go_wp2_with fail
              go_ret
              exact BoolPost.mk' (HF.out ((HB.out (by omega)).trans (HS2.out b3))).symm (hf.alloc _)
          · have : j = m := by omega
            subst this
            have HS : Hid (ok = true) := by
              unfold Hid; rw [HB.out (by omega)]; rw [List.take_of_length_le (by rw [HL.out]; exact Nat.le_refl _)] at hja; exact hja
            clear hja
            go_wp2_with fail
            go_roundw
            case rel => exact ⟨k + 1, by omega, by go_num, by rw [HT.out]; exact HS.out, hf.alloc _⟩
            case measure => simp [intOf]; omega
      · go_wp2_with fail
        go_ret
        exact BoolPost.mk' (HF.out (HB2.out b2)).symm (hf.alloc _)
    · have : k = n := by omega
      subst this
      have HE : Hid (fewT L = decide (k ≤ 40)) := by
        unfold Hid fewT; rw [HN.out]; rw [List.take_of_length_le (by rw [HN.out]; exact Nat.le_refl _)] at ha; rw [ha]; rfl
      clear ha
      go_wp2_with fail
      go_ret
      refine BoolPost.mk' ?_ hf
      rw [HE.out]
      exact decide_eq_decide.2 (by omega)
set_option maxRecDepth 100000 in
set_option maxHeartbeats 1600000 in
theorem lives15_calls (w : World) : Calls Try.prog 13 #[] w (BoolPost w true) := by
  have hput := fun W h => putT_calls W (upB w.heap.size) w.heap.size zeroT 2 5 8 none 0 0 [] h
  have hpa : putA zeroT 2 5 8 [] = (zeroT.set 2 (5, 8, []), 0) := by decide
  have hj := fun W n h => judgeA_calls W (upB w.heap.size) w.heap.size (zeroT.set 2 (5, 8, [])) 2 n h
  have j4 : judgeA (zeroT.set 2 (5, 8, [])) 2 4 = 1 := by decide
  have j5 : judgeA (zeroT.set 2 (5, 8, [])) 2 5 = 2 := by decide
  have j6 : judgeA (zeroT.set 2 (5, 8, [])) 2 6 = 3 := by decide
  have j0 : judgeA (zeroT.set 2 (5, 8, [])) 2 0 = 0 := by decide
  have h4 := fun W h => hj W 4 h
  have h5 := fun W h => hj W 5 h
  have h6 := fun W h => hj W 6 h
  have h0 := fun W h => hj W 0 h
  rw [hpa] at hput
  rw [j4] at h4
  rw [j5] at h5
  rw [j6] at h6
  rw [j0] at h0
  have heq := Try.prog
  generalize zeroT.set 2 (5, 8, []) = t1 at *
  have HP := hid hput
  clear hpa hj j4 j5 j6 j0 heq hput
  go_enter Try.func13, Try.ntmps13
  go_wp2_with fail
  refine (newTA_calls w).mono ?_
  rintro e w1 ⟨rfl, ht1, f1⟩
  have hs1 := f1.size
  go_wp2_with fail
  refine (HP.out w1 ht1 (fun k hk => by unfold upB; omega) (RowAt.nil _ _) (by simp) (by simp) (by decide) (by decide) (by decide) (by decide) (fun a ea => by cases ea)).mono ?_
  rintro e w2 ⟨rfl, ht2, f2⟩
  have F2 : Fr noB w w2 := f1.trans f2 (fun i hi h => by unfold eqB at h; omega)
  clear HP ht1 f1 f2
  go_wp2_with fail
  refine (h4 w2 ht2).mono ?_
  rintro e w3 ⟨rfl, rfl⟩
  go_wp2_with fail
  refine (h5 w2 ht2).mono ?_
  rintro e w3 ⟨rfl, rfl⟩
  go_wp2_with fail
  refine (h6 w2 ht2).mono ?_
  rintro e w3 ⟨rfl, rfl⟩
  go_wp2_with fail
  refine (h0 w2 ht2).mono ?_
  rintro e w3 ⟨rfl, rfl⟩
  go_wp2_with fail
  go_ret
  exact BoolPost.mk' rfl F2
end Go.Proofs.Ytpkdcbfhacgklaa
/- op.text, (*op.Op).read. -/
namespace Go.Proofs.Ytpkdcbfhacgklaa
open Go.RowKit

theorem RdAt.inn {w : World} {S : Nat → Prop} {p : Nat} {r : Rd} (h : RdAt w S p r) : RdAt w (fun k => S k ∧ k < w.heap.size) p r := by
  obtain ⟨A, n, c, T, h⟩ := h
  refine ⟨A, n, c, T, h.len, h.heap, h.row, h.cap, h.max, h.nil, ⟨h.inS, (Array.getElem?_eq_some_iff.1 h.heap).1⟩, fun h0 a e => ?_, h.err⟩
  obtain ⟨h1, h2⟩ := h.rowS h0 a e
  subst e
  exact ⟨⟨h1, h.row.lt (by rw [bcells_length, h.len.out]; exact h0)⟩, h2⟩
/-- One of a sign's parts, as it is read. -/
def rdPart (o : OpV) (r : Rd) (c : UInt8) : OpV × Rd :=
  if c = 97 then ({o with a := mkS (rText r 65535).2}, (rText r 65535).1) else if c = 98 then ({o with b := mkS (rText r 65535).2}, (rText r 65535).1)
  else if c = 110 then ({o with n := (rNum r 1).2}, (rNum r 1).1) else if c = 114 then ({o with r := (rNum r 1).2}, (rNum r 1).1) else (o, r)
def rdSign (s : OpV × Rd) (c : UInt8) : OpV × Rd := ((rdPart s.1 s.2 c).1, if (rdPart s.1 s.2 c).2.e = 0 ∧ rightV (rdPart s.1 s.2 c).1 c = false then rFail (rdPart s.1 s.2 c).2 4 else (rdPart s.1 s.2 c).2)
def orB (S : Nat → Prop) (p : Nat) : Nat → Prop := fun k => S k ∨ k = p
theorem rdSign_keep {o o' : OpV} {r r' : Rd} {c : UInt8} (h : rdPart o r c = (o', r')) (hk : r'.e ≠ 0 ∨ rightV o' c = true) : rdSign (o, r) c = (o', r') := by
  unfold rdSign; rw [h]
  rw [if_neg]
  rintro ⟨h1, h2⟩
  rcases hk with hk | hk
  · exact hk h1
  · simp only [] at h2; rw [hk] at h2; cases h2
theorem rdSign_fail {o o' : OpV} {r r' : Rd} {c : UInt8} (h : rdPart o r c = (o', r')) (h1 : r'.e = 0) (h2 : rightV o' c = false) : rdSign (o, r) c = (o', rFail r' 4) := by
  unfold rdSign; rw [h]
  rw [if_pos ⟨h1, h2⟩]

end Go.Proofs.Ytpkdcbfhacgklaa
/- Contracts of interrexref01's Reader. -/
namespace Go.Proofs.Ytpkdcbfhacgklaa
open Go.RowKit

def Rd.inv (r : Rd) : Prop := r.e ≠ 0 → r.bs = []
/-- A Reader of the reference, as a value. -/
def Rd.val (r : Rd) : Value := .agg #[.string (mkS r.bs), .int .i64 (r.e : Nat)]
theorem rFail_inv {r : Rd} (k : Nat) (h : r.inv) : (rFail r k).inv := by
  unfold rFail Rd.inv at *
  split
  · intro _; rfl
  · exact h
theorem rTake_inv {r : Rd} (n : Nat) (h : r.inv) : (rTake r n).1.inv := by
  unfold rTake
  split
  · exact rFail_inv 2 h
  · intro e; simp only at e ⊢; rw [h e]; simp
theorem fr_set2 (W : World) (b : Nat) (u v : Value) : Fr (eqB b) W ((W.setCell ⟨b, 0, none⟩ u).setCell ⟨b, 1, none⟩ v) :=
  Fr.setCell (S := eqB b) (Fr.setCell (S := eqB b) (Fr.refl _ W) (p := ⟨b, 0, none⟩) (Or.inl rfl) u) (p := ⟨b, 1, none⟩) (Or.inl rfl) v
theorem set2 {w : World} {b : Nat} {x y u v : Value} {t : TypeId} (h : w.heap[b]? = some (.cells #[x, y] t (0, 0))) : ((w.setCell ⟨b, 0, none⟩ u).setCell ⟨b, 1, none⟩ v).heap[b]? = some (.cells #[u, v] t (0, 0)) := two_set1 (two_set0 h)
theorem cells2 {W : World} {b : Nat} {x y : Value} {t : TypeId} (h : W.heap[b]? = some (.cells #[x, y] t (0, 0))) : W.cell? ⟨b, 0, none⟩ = some x ∧ W.cell? ⟨b, 1, none⟩ = some y := by
  constructor <;> simp [World.cell?, h]
theorem heap_al {W : World} {b : Nat} {o : Obj} (h : W.heap[b]? = some o) (o' : Obj) : (W.alloc o').heap[b]? = some o := ((Fr.refl noB W).alloc o').heap h id
theorem fr_cells {W w1 : World} {S : Nat → Prop} (f : Fr S W w1) {b : Nat} {c : Array Value} {t : TypeId} (h : W.heap[b]? = some (.cells c t (0, 0))) (hS : ¬ S b) :
    (∀ j v, c[j]? = some v → w1.cell? ⟨b, j, none⟩ = some v) ∧ ∀ j, w1.frozen? ⟨b, j, none⟩ = false := by
  have h1 := f.heap h hS
  exact ⟨fun j v hv => by simp [World.cell?, h1, hv], fun j => by simp [World.frozen?, h1]⟩
theorem heap_two (w : World) (A B : Obj) : ((w.alloc A).alloc B).heap[w.heap.size]? = some A ∧ ((w.alloc A).alloc B).heap[w.heap.size + 1]? = some B := by
  constructor
  · rw [Below.heap_alloc _ _ _ (by simp)]; exact heap_alloc_new w A
  · have := heap_alloc_new (w.alloc A) B
    rwa [World.size_alloc] at this
theorem mkS_from (bs : List UInt8) (k : Nat) : (mkS bs).extract k bs.length = mkS (bs.drop k) := by
  apply ByteArray.ext; apply Array.ext'
  simp [mkS]
  exact List.take_of_length_le (by simp)
theorem mkS_to (bs : List UInt8) (k : Nat) : (mkS bs).extract 0 k = mkS (bs.take k) := by
  apply ByteArray.ext; apply Array.ext'
  simp [mkS]

end Go.Proofs.Ytpkdcbfhacgklaa
/- Contracts of interrexref01: Value, Get, GetTruth. -/
namespace Go.Proofs.Ytpkdcbfhacgklaa
open Go.RowKit

theorem u64_wrap (x : Nat) (h : x < 18446744073709551616) : IntKind.u64.wrap (x : Int) = x := by
  rw [IntKind.wrap_u64]; omega
theorem leV_drop {bs : List UInt8} {m : Nat} (h : m < bs.length) : leV (bs.drop m) = (bs.getD m 0).toNat + 256 * leV (bs.drop (m + 1)) := by
  rw [List.drop_eq_getElem_cons h, leV, List.getD_eq_getElem?_getD, List.getElem?_eq_getElem h]
  rfl
theorem value_step {bs : List UInt8} {m : Nat} (hl : bs.length ≤ 8) (h : m < bs.length) :
    IntKind.u64.wrap (IntKind.u64.wrap ((leV (bs.drop (m + 1)) : Nat) * 256 : Int) + IntKind.u64.wrap (((bs[m]?.getD 0).toNat : Nat) : Int)) = ((leV (bs.drop m) : Nat) : Int) := by
  have h1 := leV_drop h
  have h2 := leV_lt (bs.drop m)
  have h3 : (256 : Nat) ^ (bs.drop m).length ≤ 256 ^ 8 := Nat.pow_le_pow_right (by omega) (by rw [List.length_drop]; omega)
  have h4 : (256 : Nat) ^ 8 = 18446744073709551616 := by decide
  rw [List.getD_eq_getElem?_getD] at h1
  have hb := (bs[m]?.getD 0).toNat_lt
  generalize (bs[m]?.getD 0).toNat = b at *
  generalize leV (bs.drop (m + 1)) = x at *
  generalize leV (bs.drop m) = y at *
  have e1 : ((x : Int) * 256) = ((x * 256 : Nat) : Int) := (Int.natCast_mul x 256).symm
  rw [e1, u64_wrap _ (by omega), u64_wrap _ (by omega), ← Int.natCast_add, u64_wrap _ (by omega)]
  omega
set_option maxRecDepth 100000 in
set_option maxHeartbeats 1600000 in
theorem valueR_calls (w : World) (bs : List UInt8) (hl : bs.length ≤ 8) : Calls Try.prog 73 #[.string (mkS bs)] w (fun e w' => e = .returned (.int .u64 (leV bs : Nat)) ∧ w = w') := by
  have hsz : (mkS bs).size = bs.length := mkS_size _
  have hx : ∀ (j : Nat) (h : j < (mkS bs).size), ((mkS bs)[j]'h).toNat = (bs.getD j 0).toNat := fun j h => by
    rw [hsz] at h
    rw [List.getD_eq_getElem?_getD, List.getElem?_eq_getElem h]
    simp [mkS]
    rfl
  generalize hS : mkS bs = s at *
  generalize hn : bs.length = n at *
  have HS := hid hS; clear hS
  have HN := hid hn; clear hn
  have HZ := hid hsz
  have h64 : s.size ≤ 8 := by omega
  clear hsz
  go_enter Try.func73, Try.ntmps73
  go_wp2_with fail
  go_loop [3, 4] (fun x i => ∃ j : Nat, j ≤ s.size ∧ i = .int .i64 ((j : Int) - 1) ∧ x = .int .u64 (leV (bs.drop j) : Nat)) (fun _ i => (intOf i + 1).toNat)
  case atStart =>
    refine ⟨s.size, Nat.le_refl _, rfl, ?_⟩
    rw [HZ.out, List.drop_eq_nil_of_le (by rw [HN.out]; exact Nat.le_refl _)]
    rfl
  case round =>
    obtain ⟨j, hj, rfl, rfl⟩ := hrel
    by_cases hj0 : j = 0
    · subst hj0
      go_wp2_with fail
      go_ret
      exact ⟨rfl, rfl⟩
    · obtain ⟨m, rfl⟩ : ∃ m, j = m + 1 := ⟨j - 1, by omega⟩
      have hst := value_step (bs := bs) (m := m) (by rw [HN.out]; exact hl) (by rw [HN.out, ← HZ.out]; omega)
      have HST := hid hst; clear hst
      go_wp2_with fail
      go_round
      case rel => exact ⟨m, by omega, rfl, by rw [HST.out]⟩
      case measure => simp [intOf]

end Go.Proofs.Ytpkdcbfhacgklaa
/- Contracts of interrexref01: GetTruth, GetText. -/
namespace Go.Proofs.Ytpkdcbfhacgklaa
open Go.RowKit

theorem rNum_pos {r : Rd} {n : Nat} (hi : r.inv) (h : 0 < (rNum r n).2) : (rNum r n).1.e = 0 := by
  unfold rNum rTake at *
  split
  · rename_i h1; rw [if_pos h1] at h; simp [leV] at h
  · rename_i h1
    rw [if_neg h1] at h
    simp only at h ⊢
    rcases Nat.eq_zero_or_pos r.e with e | e
    · exact e
    · have := hi (by omega)
      rw [this] at h; simp [leV] at h
theorem rNum_inv {r : Rd} (n : Nat) (hi : r.inv) : (rNum r n).1.inv := rTake_inv n hi
theorem rFail_len (r : Rd) (k : Nat) : (rFail r k).bs.length ≤ r.bs.length := by
  unfold rFail; split <;> simp
theorem rTake_left (r : Rd) (n : Nat) : (rTake r n).1.bs.length ≤ r.bs.length := by
  unfold rTake; split
  · exact rFail_len r 2
  · simp
/-- The result's block and the box of a struct: what a call leaves. -/
def RRPost (w : World) (r : Rd) (v : Value) (e : Ending) (w' : World) : Prop := e = .returned (.tuple #[r.val, v]) ∧ Fr noB w w'

theorem rFail_ne {r : Rd} (k : Nat) (h : r.e ≠ 0) : rFail r k = r := by unfold rFail; rw [if_neg (by simp [h])]
end Go.Proofs.Ytpkdcbfhacgklaa
/- Contract of interrexref01.GetRow. -/
namespace Go.Proofs.Ytpkdcbfhacgklaa
open Go.RowKit

theorem rText_err {r : Rd} (hi : r.inv) (h : r.e ≠ 0) (long : Int) : rText r long = (r, []) := by
  have hb := hi h
  obtain ⟨bs, ee⟩ := r
  subst hb
  have h1 : rTake ⟨[], ee⟩ 2 = (⟨[], ee⟩, []) := by unfold rTake; rw [if_pos (by simp), rFail_ne 2 h]
  have h2 : rNum ⟨[], ee⟩ 2 = (⟨[], ee⟩, 0) := by unfold rNum; rw [h1]; rfl
  have h3 : rCount ⟨[], ee⟩ long = (⟨[], ee⟩, 0) := by unfold rCount; rw [h2, if_neg (by simp; omega)]
  unfold rText
  rw [h3]
  rfl
theorem rText_inv {r : Rd} (hi : r.inv) (long : Int) : (rText r long).1.inv := by
  unfold rText rCount
  refine rTake_inv _ ?_
  split
  · exact rFail_inv 3 (rNum_inv 2 hi)
  · exact rNum_inv 2 hi
theorem rCount_left (r : Rd) (most : Int) : (rCount r most).1.bs.length ≤ r.bs.length := by
  unfold rCount
  split
  · exact Nat.le_trans (rFail_len _ 3) (rTake_left r 2)
  · exact rTake_left r 2
theorem rText_left (r : Rd) (long : Int) : (rText r long).1.bs.length ≤ r.bs.length := Nat.le_trans (rTake_left _ _) (rCount_left r long)
theorem rTexts_inv {r : Rd} (hi : r.inv) (long : Int) (n : Nat) : (rTexts r long n).1.inv := by
  induction n with
  | zero => exact hi
  | succ n ih => exact rText_inv ih long
theorem rTexts_left (r : Rd) (long : Int) (n : Nat) : (rTexts r long n).1.bs.length ≤ r.bs.length := by
  induction n with
  | zero => exact Nat.le_refl _
  | succ n ih => exact Nat.le_trans (rText_left _ long) ih
theorem rTexts_err {r : Rd} (hi : r.inv) (long : Int) {n : Nat} (h : (rTexts r long n).1.e ≠ 0) : ∀ m, (rTexts r long (n + m)).1 = (rTexts r long n).1 := by
  intro m
  induction m with
  | zero => rfl
  | succ m ih =>
    show (rText (rTexts r long (n + m)).1 long).1 = _
    rw [rText_err (rTexts_inv hi long _) (by rw [ih]; exact h), ih]
theorem rRow_err {r r1 : Rd} {x : Nat} (hi : r1.inv) (most long : Int) (hc : rCount r most = (r1, x)) {k : Nat} (hk : k ≤ x) (h : (rTexts r1 long k).1.e ≠ 0) : rRow r most long = ((rTexts r1 long k).1, []) := by
  obtain ⟨m, rfl⟩ := Nat.exists_eq_add_of_le hk
  unfold rRow
  rw [hc]
  simp only
  rw [rTexts_err hi long h m, if_neg h]
theorem rRow_ok {r r1 : Rd} {x : Nat} (most long : Int) (hc : rCount r most = (r1, x)) (h : (rTexts r1 long x).1.e = 0) : rRow r most long = rTexts r1 long x := by
  unfold rRow
  rw [hc]
  simp only
  rw [if_pos h]

theorem cell_one_row' (w : World) (x : Value) (t : TypeId) {n : Nat} (h : w.heap.size = n) : RowAt (w.alloc (.cells #[x] t)) (some ⟨n, 0, none⟩) [x] := h ▸ cell_one_row w x t
/-- What GetRow leaves. -/
def RowRPost (w : World) (q : Rd × List ByteArray) (e : Ending) (w' : World) : Prop :=
  ∃ A n c, e = .returned (.tuple #[q.1.val, .slice A n c]) ∧ Hid (q.2.length = n) ∧ n ≤ 65535 ∧ RowAt w' A (strs q.2) ∧ (∀ ad, A = some ad → w.heap.size ≤ ad.block) ∧ Fr noB w w'

end Go.Proofs.Ytpkdcbfhacgklaa
/- op.Get. -/
namespace Go.Proofs.Ytpkdcbfhacgklaa
open Go.RowKit

/-- op.Get, as a function. -/
def repR1 (bs : List UInt8) : Rd := if 18 < (rNum ⟨bs, 0⟩ 1).2 then rFail (rNum ⟨bs, 0⟩ 1).1 4 else (rNum ⟨bs, 0⟩ 1).1
def repR3 (bs : List UInt8) : Rd := if (rNum ⟨bs, 0⟩ 1).2 ≠ 0 ∧ 0 < (rRow (repR1 bs) 400 400).2.length then rFail (rRow (repR1 bs) 400 400).1 4 else (rRow (repR1 bs) 400 400).1
def repGet (bs : List UInt8) : (Nat × List ByteArray) × Nat :=
  if rEnd (repR3 bs) = 0 then (((rNum ⟨bs, 0⟩ 1).2, (rRow (repR1 bs) 400 400).2), 0) else ((0, []), rEnd (repR3 bs))
/-- What a reply's Get leaves: memory that is new. -/
def RepPost (w : World) (q : (Nat × List ByteArray) × Nat) (e : Ending) (w' : World) : Prop :=
  ∃ A n c, e = .returned (.tuple #[.agg #[.int .i64 (q.1.1 : Nat), .slice A n c], .int .i64 (q.2 : Nat)]) ∧ Hid (q.1.2.length = n) ∧ RowAt w' A (strs q.1.2) ∧ (∀ ad, A = some ad → w.heap.size ≤ ad.block) ∧ n ≤ c ∧ c ≤ 9223372036854775807 ∧ Fr noB w w'
theorem own_cap {w : World} {base n : Nat} {e : TypeId} {size : Nat} {A : Option Addr} {m c : Nat} {xs : List Value} (h : w.ownsRow base e size (.slice A m c) n xs) : m ≤ c ∧ c ≤ 9223372036854775807 ∧ ∀ ad, A = some ad → base ≤ ad.block := by
  rcases h.2 with ⟨e1, _⟩ | ⟨g, cap, cur, e1, hb, _, hc, hm, _⟩
  · injection e1 with h0 h1 h2; subst h0 h1 h2; exact ⟨Nat.le_refl _, by decide, fun _ h => by cases h⟩
  · injection e1 with h0 h1 h2; subst h0 h1 h2; exact ⟨hc, Nat.le_trans hm (by decide), fun ad h => by cases h; exact hb⟩

set_option maxRecDepth 100000 in
set_option maxHeartbeats 1600000 in
theorem opGet_calls (w : World) (A : Option Addr) (n c : Nat) (bs : List UInt8) (hx : RowAt w A (bcells bs)) (hn : bs.length = n) (hB : A = none → n = 0 ∧ c = 0) (hl : n ≤ 1000000000000) :
    Calls Try.prog 78 #[.slice A n c] w (RepPost w (repGet bs)) := by
  have hb0 : BlkAt (w.alloc (.cells #[.int .i64 0, .slice none 0 0] 37)) w.heap.size 37 #[.int .i64 0, .slice none 0 0] := BlkAt.new _ _ _
  have f0 : Fr noB w (w.alloc (.cells #[.int .i64 0, .slice none 0 0] 37)) := (Fr.refl noB w).alloc _
  have hz0 := al_size w (.cells #[.int .i64 0, .slice none 0 0] 37)
  have hoc := of_calls (w.alloc (.cells #[.int .i64 0, .slice none 0 0] 37)) A n c bs (hx.fr0 f0) hn hB hl
  have hr : Hid (Try.f78.results = #[.cell 2 37, .tmp 3]) := by unfold Hid; kernel_rfl
  have HV : Hid (repGet bs = if rEnd (repR3 bs) = 0 then (((rNum ⟨bs, 0⟩ 1).2, (rRow (repR1 bs) 400 400).2), 0) else ((0, []), rEnd (repR3 bs))) := rfl
  have H3 : Hid (repR3 bs = if (rNum ⟨bs, 0⟩ 1).2 ≠ 0 ∧ 0 < (rRow (repR1 bs) 400 400).2.length then rFail (rRow (repR1 bs) 400 400).1 4 else (rRow (repR1 bs) 400 400).1) := rfl
  have H1 : Hid (repR1 bs = if 18 < (rNum ⟨bs, 0⟩ 1).2 then rFail (rNum ⟨bs, 0⟩ 1).1 4 else (rNum ⟨bs, 0⟩ 1).1) := rfl
  clear hn hx hl hB
  go_enter Try.func78, Try.ntmps78
  go_wp2_with fail
  generalize (w.alloc (.cells #[.int .i64 0, .slice none 0 0] 37)) = wa at *
  refine hoc.mono ?_
  rintro e w1 ⟨p, rfl, hp1, hp2, h1, f1⟩
  obtain ⟨S, hS, HSd⟩ : ∃ S : Nat → Prop, RdAt w1 S p ⟨bs, 0⟩ ∧ ∀ k, S k → w.heap.size < k ∧ k < w1.heap.size := ⟨_, h1.inn, fun k hk => by have := hk.1; unfold upB at this; omega⟩
  replace hb0 := hb0.fr f1 id
  replace f0 := f0.then' f1
  clear h1 f1 hoc
  go_wp2_with fail
  have hb := byteRd_calls w1 S p ⟨bs, 0⟩ hS
  have hk2 := rNum_lt ⟨bs, 0⟩ 1
  generalize rNum ⟨bs, 0⟩ 1 = q1 at *
  obtain ⟨r, k⟩ := q1
  simp only [] at *
  refine hb.mono ?_
  rintro e w2 ⟨rfl, h2, f2⟩
  replace hb0 := hb0.fr f2 (fun h => by have := HSd _ h; omega)
  replace f0 := f0.trans f2 (fun i hi h => by have := HSd _ h; omega)
  have hs2 := f2.size
  clear hS hb f2
  have hne : ((k : Int) != 0) = decide (k ≠ 0) := by by_cases h : k = 0 <;> simp [h]
  obtain ⟨c1, hc1⟩ : ∃ c, ((k : Int) != 0) = c := ⟨_, rfl⟩
  have HC1 : Hid (c1 = true ↔ k ≠ 0) := by unfold Hid; rw [← hc1, hne, decide_eq_true_eq]
  clear hne
  by_cases h18 : 18 < k
  · have d1 : decide ((18 : Int) < k) = true := decide_eq_true (by omega)
    rw [if_pos h18] at H1
    rw [H1.out] at HV H3
    clear H1 h18
    go_wp2_with fail
    refine (fail_calls w2 S p r 4 h2).mono ?_
    generalize rFail r 4 = r1 at *
    rintro e w3 ⟨rfl, h3, f3⟩
    replace hb0 := hb0.fr f3 (fun h => by have := HSd _ h; omega)
    replace f0 := f0.trans f3 (fun i hi h => by have := HSd _ h; omega)
    have hs3 := f3.size
    clear h2 f3
    have HSd' : ∀ j, S j → j < w3.heap.size := fun j hj => by have := (HSd j hj).2; omega
    have hrow := rowRd_calls w3 S p r1 400 400 h3 HSd' (by decide) (by decide) (by decide) (by decide)
    generalize rRow r1 400 400 = q2 at *
    obtain ⟨r2, l2⟩ := q2
    simp only [] at *
    go_wp2_with fail
    refine hrow.mono ?_
    rintro e w5 ⟨A1, n1, c1', rfl, HN1, h5, hr5, f5⟩
    have hcap := own_cap h5
    have hro := own_row h5
    replace hb0 := hb0.fr f5 (fun h => by have := HSd _ h; omega)
    replace f0 := f0.trans f5 (fun i hi h => by have := HSd _ h; omega)
    have hs5 := f5.size
    clear hrow h5 f5
    obtain ⟨c2, hc2⟩ : ∃ c, decide (0 < n1) = c := ⟨_, rfl⟩
    have HC2 : Hid (c2 = true ↔ 0 < l2.length) := by unfold Hid; rw [← hc2, decide_eq_true_eq, HN1.out]
    by_cases hb : c1 = true ∧ c2 = true
    · obtain ⟨rfl, rfl⟩ := hb
      rw [if_pos ⟨HC1.out.1 rfl, HC2.out.1 rfl⟩] at H3
      rw [H3.out] at HV
      clear H3
      go_wp2_with fail
      refine (fail_calls w5 S p r2 4 hr5).mono ?_
      generalize rFail r2 4 = r3 at *
      rintro e w6 ⟨rfl, h6, f6⟩
      replace hb0 := hb0.fr f6 (fun h => by have := HSd _ h; omega)
      replace hro := hro.fr f6 (fun ad e _ _ h => by have := hcap.2.2 ad e; have := (HSd _ h).2; omega)
      replace f0 := f0.trans f6 (fun i hi h => by have := HSd _ h; omega)
      clear f6 hr5
      obtain ⟨x0, x1, xf⟩ := BlkAt.c2 hb0
      have hE := endRd_calls w6 S p r3 h6
      by_cases h0 : rEnd r3 = 0
      · rw [if_pos h0] at HV
        rw [h0] at hE
        have FF := f0.trans ((fr_set1 w6 w.heap.size 0 (.int .i64 k)).then' (fr_set1 _ w.heap.size 1 (.slice A1 n1 c1'))) (fun i hi h => by unfold eqB at h; omega)
        have hro' := (hro.fr (fr_set1 w6 w.heap.size 0 (.int .i64 k)) (fun ad e _ _ h => by have := hcap.2.2 ad e; unfold eqB at h; omega)).fr (fr_set1 _ w.heap.size 1 (.slice A1 n1 c1')) (fun ad e _ _ h => by have := hcap.2.2 ad e; unfold eqB at h; omega)
        clear h0
        go_wp2_with fail
        refine hE.mono ?_
        rintro e w9 ⟨rfl, rfl⟩
        go_wp2_with fail
        have hr := hr.out
        exact bodyPost_ret (v := .tuple #[.agg #[.int .i64 k, .slice A1 n1 c1'], .int .i64 0]) (by simp [results, hr, go_sem, x0, x1]) rfl ⟨A1, n1, c1', by rw [HV.out] <;> rfl, by rw [HV.out]; exact HN1, by rw [HV.out]; exact hro', fun ad e => by have := hcap.2.2 ad e; omega, hcap.1, hcap.2.1, FF⟩
      · rw [if_neg h0] at HV
        generalize rEnd r3 = re at *
        have t1 : ((re : Int) != 0) = true := by rw [bne_iff_ne]; omega
        have FF := f0.trans ((fr_set1 w6 w.heap.size 0 (.int .i64 0)).then' (fr_set1 _ w.heap.size 1 (.slice none 0 0))) (fun i hi h => by unfold eqB at h; omega)
        clear h0
        go_wp2_with fail
        refine hE.mono ?_
        rintro e w9 ⟨rfl, rfl⟩
        go_wp2_with fail
        have hr := hr.out
        exact bodyPost_ret (v := .tuple #[.agg #[.int .i64 0, .slice none 0 0], .int .i64 re]) (by simp [results, hr, go_sem, x0, x1]) rfl ⟨none, 0, 0, by rw [HV.out] <;> rfl, by rw [HV.out]; exact rfl, RowAt.nil _ _ |> (by rw [HV.out]; exact ·), fun ad e => (by cases e), Nat.le_refl _, by decide, FF⟩
    · rw [if_neg (fun h => hb ⟨HC1.out.2 h.1, HC2.out.2 h.2⟩)] at H3
      rw [H3.out] at HV
      clear H3
      obtain ⟨c3, hc3⟩ : ∃ c, (c1 && c2) = c := ⟨_, rfl⟩
      have hb' : c1 = false ∨ c1 = true ∧ c2 = false := by
        cases c1
        · exact Or.inl rfl
        · cases c2
          · exact Or.inr ⟨rfl, rfl⟩
          · exact absurd ⟨rfl, rfl⟩ hb
      clear hb hc3
      rcases hb' with rfl | ⟨rfl, rfl⟩
      all_goals
        obtain ⟨x0, x1, xf⟩ := BlkAt.c2 hb0
        have hE := endRd_calls w5 S p r2 hr5
        by_cases h0 : rEnd r2 = 0
        · rw [if_pos h0] at HV
          rw [h0] at hE
          have FF := f0.trans ((fr_set1 w5 w.heap.size 0 (.int .i64 k)).then' (fr_set1 _ w.heap.size 1 (.slice A1 n1 c1'))) (fun i hi h => by unfold eqB at h; omega)
          have hro' := (hro.fr (fr_set1 w5 w.heap.size 0 (.int .i64 k)) (fun ad e _ _ h => by have := hcap.2.2 ad e; unfold eqB at h; omega)).fr (fr_set1 _ w.heap.size 1 (.slice A1 n1 c1')) (fun ad e _ _ h => by have := hcap.2.2 ad e; unfold eqB at h; omega)
          clear h0
          go_wp2_with fail
          refine hE.mono ?_
          rintro e w9 ⟨rfl, rfl⟩
          go_wp2_with fail
          have hr := hr.out
          exact bodyPost_ret (v := .tuple #[.agg #[.int .i64 k, .slice A1 n1 c1'], .int .i64 0]) (by simp [results, hr, go_sem, x0, x1]) rfl ⟨A1, n1, c1', by rw [HV.out] <;> rfl, by rw [HV.out]; exact HN1, by rw [HV.out]; exact hro', fun ad e => by have := hcap.2.2 ad e; omega, hcap.1, hcap.2.1, FF⟩
        · rw [if_neg h0] at HV
          generalize rEnd r2 = re at *
          have t1 : ((re : Int) != 0) = true := by rw [bne_iff_ne]; omega
          have FF := f0.trans ((fr_set1 w5 w.heap.size 0 (.int .i64 0)).then' (fr_set1 _ w.heap.size 1 (.slice none 0 0))) (fun i hi h => by unfold eqB at h; omega)
          clear h0
          go_wp2_with fail
          refine hE.mono ?_
          rintro e w9 ⟨rfl, rfl⟩
          go_wp2_with fail
          have hr := hr.out
          exact bodyPost_ret (v := .tuple #[.agg #[.int .i64 0, .slice none 0 0], .int .i64 re]) (by simp [results, hr, go_sem, x0, x1]) rfl ⟨none, 0, 0, by rw [HV.out] <;> rfl, by rw [HV.out]; exact rfl, RowAt.nil _ _ |> (by rw [HV.out]; exact ·), fun ad e => (by cases e), Nat.le_refl _, by decide, FF⟩
  · have d1 : decide ((18 : Int) < k) = false := decide_eq_false (by omega)
    rw [if_neg h18] at H1
    rw [H1.out] at HV H3
    clear H1 h18
    have HSd' : ∀ j, S j → j < w2.heap.size := fun j hj => by have := (HSd j hj).2; omega
    have hrow := rowRd_calls w2 S p r 400 400 h2 HSd' (by decide) (by decide) (by decide) (by decide)
    generalize rRow r 400 400 = q2 at *
    obtain ⟨r2, l2⟩ := q2
    simp only [] at *
    go_wp2_with fail
    refine hrow.mono ?_
    rintro e w5 ⟨A1, n1, c1', rfl, HN1, h5, hr5, f5⟩
    have hcap := own_cap h5
    have hro := own_row h5
    replace hb0 := hb0.fr f5 (fun h => by have := HSd _ h; omega)
    replace f0 := f0.trans f5 (fun i hi h => by have := HSd _ h; omega)
    have hs5 := f5.size
    clear hrow h5 f5
    obtain ⟨c2, hc2⟩ : ∃ c, decide (0 < n1) = c := ⟨_, rfl⟩
    have HC2 : Hid (c2 = true ↔ 0 < l2.length) := by unfold Hid; rw [← hc2, decide_eq_true_eq, HN1.out]
    by_cases hb : c1 = true ∧ c2 = true
    · obtain ⟨rfl, rfl⟩ := hb
      rw [if_pos ⟨HC1.out.1 rfl, HC2.out.1 rfl⟩] at H3
      rw [H3.out] at HV
      clear H3
      go_wp2_with fail
      refine (fail_calls w5 S p r2 4 hr5).mono ?_
      generalize rFail r2 4 = r3 at *
      rintro e w6 ⟨rfl, h6, f6⟩
      replace hb0 := hb0.fr f6 (fun h => by have := HSd _ h; omega)
      replace hro := hro.fr f6 (fun ad e _ _ h => by have := hcap.2.2 ad e; have := (HSd _ h).2; omega)
      replace f0 := f0.trans f6 (fun i hi h => by have := HSd _ h; omega)
      clear f6 hr5
      obtain ⟨x0, x1, xf⟩ := BlkAt.c2 hb0
      have hE := endRd_calls w6 S p r3 h6
      by_cases h0 : rEnd r3 = 0
      · rw [if_pos h0] at HV
        rw [h0] at hE
        have FF := f0.trans ((fr_set1 w6 w.heap.size 0 (.int .i64 k)).then' (fr_set1 _ w.heap.size 1 (.slice A1 n1 c1'))) (fun i hi h => by unfold eqB at h; omega)
        have hro' := (hro.fr (fr_set1 w6 w.heap.size 0 (.int .i64 k)) (fun ad e _ _ h => by have := hcap.2.2 ad e; unfold eqB at h; omega)).fr (fr_set1 _ w.heap.size 1 (.slice A1 n1 c1')) (fun ad e _ _ h => by have := hcap.2.2 ad e; unfold eqB at h; omega)
        clear h0
        go_wp2_with fail
        refine hE.mono ?_
        rintro e w9 ⟨rfl, rfl⟩
        go_wp2_with fail
        have hr := hr.out
        exact bodyPost_ret (v := .tuple #[.agg #[.int .i64 k, .slice A1 n1 c1'], .int .i64 0]) (by simp [results, hr, go_sem, x0, x1]) rfl ⟨A1, n1, c1', by rw [HV.out] <;> rfl, by rw [HV.out]; exact HN1, by rw [HV.out]; exact hro', fun ad e => by have := hcap.2.2 ad e; omega, hcap.1, hcap.2.1, FF⟩
      · rw [if_neg h0] at HV
        generalize rEnd r3 = re at *
        have t1 : ((re : Int) != 0) = true := by rw [bne_iff_ne]; omega
        have FF := f0.trans ((fr_set1 w6 w.heap.size 0 (.int .i64 0)).then' (fr_set1 _ w.heap.size 1 (.slice none 0 0))) (fun i hi h => by unfold eqB at h; omega)
        clear h0
        go_wp2_with fail
        refine hE.mono ?_
        rintro e w9 ⟨rfl, rfl⟩
        go_wp2_with fail
        have hr := hr.out
        exact bodyPost_ret (v := .tuple #[.agg #[.int .i64 0, .slice none 0 0], .int .i64 re]) (by simp [results, hr, go_sem, x0, x1]) rfl ⟨none, 0, 0, by rw [HV.out] <;> rfl, by rw [HV.out]; exact rfl, RowAt.nil _ _ |> (by rw [HV.out]; exact ·), fun ad e => (by cases e), Nat.le_refl _, by decide, FF⟩
    · rw [if_neg (fun h => hb ⟨HC1.out.2 h.1, HC2.out.2 h.2⟩)] at H3
      rw [H3.out] at HV
      clear H3
      obtain ⟨c3, hc3⟩ : ∃ c, (c1 && c2) = c := ⟨_, rfl⟩
      have hb' : c1 = false ∨ c1 = true ∧ c2 = false := by
        cases c1
        · exact Or.inl rfl
        · cases c2
          · exact Or.inr ⟨rfl, rfl⟩
          · exact absurd ⟨rfl, rfl⟩ hb
      clear hb hc3
      rcases hb' with rfl | ⟨rfl, rfl⟩
      all_goals
        obtain ⟨x0, x1, xf⟩ := BlkAt.c2 hb0
        have hE := endRd_calls w5 S p r2 hr5
        by_cases h0 : rEnd r2 = 0
        · rw [if_pos h0] at HV
          rw [h0] at hE
          have FF := f0.trans ((fr_set1 w5 w.heap.size 0 (.int .i64 k)).then' (fr_set1 _ w.heap.size 1 (.slice A1 n1 c1'))) (fun i hi h => by unfold eqB at h; omega)
          have hro' := (hro.fr (fr_set1 w5 w.heap.size 0 (.int .i64 k)) (fun ad e _ _ h => by have := hcap.2.2 ad e; unfold eqB at h; omega)).fr (fr_set1 _ w.heap.size 1 (.slice A1 n1 c1')) (fun ad e _ _ h => by have := hcap.2.2 ad e; unfold eqB at h; omega)
          clear h0
          go_wp2_with fail
          refine hE.mono ?_
          rintro e w9 ⟨rfl, rfl⟩
          go_wp2_with fail
          have hr := hr.out
          exact bodyPost_ret (v := .tuple #[.agg #[.int .i64 k, .slice A1 n1 c1'], .int .i64 0]) (by simp [results, hr, go_sem, x0, x1]) rfl ⟨A1, n1, c1', by rw [HV.out] <;> rfl, by rw [HV.out]; exact HN1, by rw [HV.out]; exact hro', fun ad e => by have := hcap.2.2 ad e; omega, hcap.1, hcap.2.1, FF⟩
        · rw [if_neg h0] at HV
          generalize rEnd r2 = re at *
          have t1 : ((re : Int) != 0) = true := by rw [bne_iff_ne]; omega
          have FF := f0.trans ((fr_set1 w5 w.heap.size 0 (.int .i64 0)).then' (fr_set1 _ w.heap.size 1 (.slice none 0 0))) (fun i hi h => by unfold eqB at h; omega)
          clear h0
          go_wp2_with fail
          refine hE.mono ?_
          rintro e w9 ⟨rfl, rfl⟩
          go_wp2_with fail
          have hr := hr.out
          exact bodyPost_ret (v := .tuple #[.agg #[.int .i64 0, .slice none 0 0], .int .i64 re]) (by simp [results, hr, go_sem, x0, x1]) rfl ⟨none, 0, 0, by rw [HV.out] <;> rfl, by rw [HV.out]; exact rfl, RowAt.nil _ _ |> (by rw [HV.out]; exact ·), fun ad e => (by cases e), Nat.le_refl _, by decide, FF⟩
end Go.Proofs.Ytpkdcbfhacgklaa
/- interrexref14.Put. -/
namespace Go.Proofs.Ytpkdcbfhacgklaa
open Go.RowKit

def repR (e : Nat) (l : List ByteArray) : List UInt8 := leB 1 e ++ rowR (if e = 0 then l else [])
theorem rowR_length (ss : List ByteArray) : (rowR ss).length = 2 + sumSz ss := by unfold rowR; rw [List.length_append, leB_length, rowsR_length]
set_option maxRecDepth 100000 in
set_option maxHeartbeats 1600000 in
theorem opPutR0_calls (w : World) (e : Nat) (A : Option Addr) (n c : Nat) (l : List ByteArray) (he : e < 256) (hx : RowAt w A (strs l)) (HN : Hid (l.length = n)) (hsum : sumSz l ≤ 100000000000) (hn : n ≤ 1000000000000) (h0 : e = 0) :
    Calls Try.prog 109 #[.agg #[.int .i64 e, .slice A n c]] w (StrPost w (repR e l)) := by
  have t1 : ((e : Int) != 0) = false := by rw [bne_eq_false_iff_eq]; omega
  have HB : Hid (repR e l = leB 1 e ++ rowR l) := by unfold Hid repR; rw [if_pos h0]
  have hb0 : BlkAt (w.alloc (.cells #[.int .i64 e, .slice A n c] 69)) w.heap.size 69 #[.int .i64 e, .slice A n c] := BlkAt.new _ _ _
  have f0 : Fr noB w (w.alloc (.cells #[.int .i64 e, .slice A n c] 69)) := (Fr.refl noB w).alloc _
  have hwrap : IntKind.u64.wrap (e : Int) = e := by rw [IntKind.wrap_u64]; omega
  have hx0 : RowAt (w.alloc (.cells #[.int .i64 e, .slice A n c] 69)) A (strs l) := hx.fr0 f0
  have HE := hid he
  have hnum := fun W => numR_calls W e 1 (by omega) (by omega)
  have hcat : (mkS (leB 1 e)).size + (mkS (rowR l)).size ≤ 9223372036854775807 := by rw [mkS_size, mkS_size, leB_length, rowR_length]; omega
  clear h0 hx he
  go_enter Try.func109, Try.ntmps109
  go_wp2_with fail
  generalize (w.alloc (.cells #[.int .i64 e, .slice A n c] 69)) = wa at *
  apply wp_region_calm (R := Fr noB) (C := fun q W => Fr noB wa W ∧ BlkAt W (w.heap.size) 69 #[.int .i64 e, .slice A n c]) [false, false, false, false, false, false, false, false, false]
    [eqv _, eqv _, eqv _, eqv (.string (mkS (leB 1 e))), eqv _, eqv _, eqv (.string (mkS (rowR l))), eqv _, eqv _]
    (by kernel_rfl) (by kernel_rfl) (fun _ _ _ h1 h2 => h1.then' h2) ((Fr.refl _ _).drew) ⟨(Fr.refl _ _).drew, hb0⟩ (by kernel_rfl)
  · refine ⟨?_, ?_, ?_, ?_, ?_, ?_, ?_, ?_, ?_, trivial⟩
    · rw [if_neg (by decide)]; intro kq
      intro a W K hC hd hK
      have d1 : a.tmps[1]?.getD undef = .pointer (some ⟨w.heap.size, 0, none⟩) := hd 1 (by decide)
      refine wpOp_plain rfl rfl ?_
      obtain ⟨x0_0, x0_1, z0⟩ := BlkAt.c2 (hC.2)
      go_wp2_with fail
      exact hK _ _ (Fr.refl _ _) hC rfl
    · rw [if_neg (by decide)]; intro kq
      intro a W K hC hd hK
      have d7 : _ = _ := hd 7 (by decide)
      refine wpOp_plain rfl rfl ?_
      obtain ⟨x0_0, x0_1, z0⟩ := BlkAt.c2 (hC.2)
      go_wp2_with fail
      exact hK _ _ (Fr.refl _ _) hC rfl
    · rw [if_neg (by decide)]; intro kq
      intro a W K hC hd hK
      have d8 : _ = _ := hd 8 (by decide)
      refine wpOp_plain rfl rfl ?_
      go_wp2_with fail
      exact hK _ _ (Fr.refl _ _) hC rfl
    · rw [if_neg (by decide)]; intro kq
      intro a W K hC hd hK
      have d9 : _ = _ := hd 9 (by decide)
      refine wpOp_plain rfl rfl ?_
      obtain ⟨x0_0, x0_1, z0⟩ := BlkAt.c2 (hC.2)
      go_wp2_with fail
      refine (hnum W).mono ?_
      rintro e9 w9 ⟨rfl, f9⟩
      exact hK _ _ f9 ⟨hC.1.then' f9, hC.2.fr f9 id⟩ rfl
    · rw [if_neg (by decide)]; intro kq
      intro a W K hC hd hK
      have d1 : a.tmps[1]?.getD undef = .pointer (some ⟨w.heap.size, 0, none⟩) := hd 1 (by decide)
      refine wpOp_plain rfl rfl ?_
      obtain ⟨x0_0, x0_1, z0⟩ := BlkAt.c2 (hC.2)
      go_wp2_with fail
      exact hK _ _ (Fr.refl _ _) hC rfl
    · rw [if_neg (by decide)]; intro kq
      intro a W K hC hd hK
      have d11 : _ = _ := hd 11 (by decide)
      refine wpOp_plain rfl rfl ?_
      obtain ⟨x0_0, x0_1, z0⟩ := BlkAt.c2 (hC.2)
      go_wp2_with fail
      exact hK _ _ (Fr.refl _ _) hC rfl
    · rw [if_neg (by decide)]; intro kq
      intro a W K hC hd hK
      have d12 : _ = _ := hd 12 (by decide)
      refine wpOp_plain rfl rfl ?_
      obtain ⟨x0_0, x0_1, z0⟩ := BlkAt.c2 (hC.2)
      go_wp2_with fail
      refine (rowR_calls W A n c l (hx0.fr0 hC.1) HN (by omega) (by omega)).mono ?_
      rintro e9 w9 ⟨rfl, f9⟩
      exact hK _ _ f9 ⟨hC.1.then' f9, hC.2.fr f9 id⟩ rfl
    · rw [if_neg (by decide)]; intro kq
      intro a W K hC hd hK
      have d10 : a.tmps[10]?.getD undef = .string (mkS (leB 1 e)) := hd 10 (by decide)
      have d13 : a.tmps[13]?.getD undef = .string (mkS (rowR l)) := hd 13 (by decide)
      refine wpOp_plain rfl rfl ?_
      go_wp2_with fail
      exact hK _ _ (Fr.refl _ _) hC rfl
    · rw [if_neg (by decide)]; intro kq
      exact calm_mv 14 rfl rfl (Or.inr rfl) (Fr.refl _) (by decide) fun v w hd => hd
  · intro vs w8 fw8 cw8 hV
    have v7 : vs 0 = _ := hV 0 _ _ rfl rfl (by decide)
    have v8 : vs 1 = _ := hV 1 _ _ rfl rfl (by decide)
    have v9 : vs 2 = _ := hV 2 _ _ rfl rfl (by decide)
    have v10 : vs 3 = .string (mkS (leB 1 e)) := hV 3 _ _ rfl rfl (by decide)
    have v11 : vs 4 = _ := hV 4 _ _ rfl rfl (by decide)
    have v12 : vs 5 = _ := hV 5 _ _ rfl rfl (by decide)
    have v13 : vs 6 = .string (mkS (rowR l)) := hV 6 _ _ rfl rfl (by decide)
    have v14 : vs 7 = _ := hV 7 _ _ rfl rfl (by decide)
    have v2 : vs 8 = _ := hV 8 _ _ rfl rfl (by decide)
    clear hV
    replace hb0 : BlkAt w8 (w.heap.size) 69 #[.int .i64 e, .slice A n c] := cw8.2
    replace f0 := f0.trans fw8 (fun i hi h => h.elim)
    clear cw8
    simp only [putL, Act.put, Nat.reduceAdd, List.setIfInBounds_toArray, List.set_cons_zero, List.set_cons_succ, v7, v8, v9, v10, v11, v12, v13, v14, v2]
    go_wp2_with fail
    go_ret
    exact ⟨by rw [HB.out, ← mkS_append]; rfl, f0⟩
set_option maxRecDepth 100000 in
set_option maxHeartbeats 1600000 in
theorem opPutR1_calls (w : World) (e : Nat) (A : Option Addr) (n c : Nat) (l : List ByteArray) (he : e < 256) (hx : RowAt w A (strs l)) (HN : Hid (l.length = n)) (hsum : sumSz l ≤ 100000000000) (hn : n ≤ 1000000000000) (h0 : e ≠ 0) :
    Calls Try.prog 109 #[.agg #[.int .i64 e, .slice A n c]] w (StrPost w (repR e l)) := by
  have t1 : ((e : Int) != 0) = true := by rw [bne_iff_ne]; omega
  have HB : Hid (repR e l = leB 1 e ++ rowR []) := by unfold Hid repR; rw [if_neg h0]
  have hb0 : BlkAt (w.alloc (.cells #[.int .i64 e, .slice none 0 0] 69)) w.heap.size 69 #[.int .i64 e, .slice none 0 0] := BlkAt.new _ _ _
  have f0 : Fr noB w (w.alloc (.cells #[.int .i64 e, .slice none 0 0] 69)) := (Fr.refl noB w).alloc _
  have hwrap : IntKind.u64.wrap (e : Int) = e := by rw [IntKind.wrap_u64]; omega
  have hx0 : RowAt (w.alloc (.cells #[.int .i64 e, .slice none 0 0] 69)) none (strs ([] : List ByteArray)) := RowAt.nil _ _
  have HE := hid he
  have hnum := fun W => numR_calls W e 1 (by omega) (by omega)
  have hcat : (mkS (leB 1 e)).size + (mkS (rowR [])).size ≤ 9223372036854775807 := by rw [mkS_size, mkS_size, leB_length, rowR_length]; simp [sumSz]
  clear h0 hx he
  go_enter Try.func109, Try.ntmps109
  go_wp2_with fail
  generalize (w.alloc (.cells #[.int .i64 e, .slice none 0 0] 69)) = wa at *
  apply wp_region_calm (R := Fr noB) (C := fun q W => Fr noB wa W ∧ BlkAt W (w.heap.size) 69 #[.int .i64 e, .slice none 0 0]) [false, false, false, false, false, false, false, false, false]
    [eqv _, eqv _, eqv _, eqv (.string (mkS (leB 1 e))), eqv _, eqv _, eqv (.string (mkS (rowR []))), eqv _, eqv _]
    (by kernel_rfl) (by kernel_rfl) (fun _ _ _ h1 h2 => h1.then' h2) ((Fr.refl _ _).drew) ⟨(Fr.refl _ _).drew, hb0⟩ (by kernel_rfl)
  · refine ⟨?_, ?_, ?_, ?_, ?_, ?_, ?_, ?_, ?_, trivial⟩
    · rw [if_neg (by decide)]; intro kq
      intro a W K hC hd hK
      have d1 : a.tmps[1]?.getD undef = .pointer (some ⟨w.heap.size, 0, none⟩) := hd 1 (by decide)
      refine wpOp_plain rfl rfl ?_
      obtain ⟨x0_0, x0_1, z0⟩ := BlkAt.c2 (hC.2)
      go_wp2_with fail
      exact hK _ _ (Fr.refl _ _) hC rfl
    · rw [if_neg (by decide)]; intro kq
      intro a W K hC hd hK
      have d7 : _ = _ := hd 7 (by decide)
      refine wpOp_plain rfl rfl ?_
      obtain ⟨x0_0, x0_1, z0⟩ := BlkAt.c2 (hC.2)
      go_wp2_with fail
      exact hK _ _ (Fr.refl _ _) hC rfl
    · rw [if_neg (by decide)]; intro kq
      intro a W K hC hd hK
      have d8 : _ = _ := hd 8 (by decide)
      refine wpOp_plain rfl rfl ?_
      go_wp2_with fail
      exact hK _ _ (Fr.refl _ _) hC rfl
    · rw [if_neg (by decide)]; intro kq
      intro a W K hC hd hK
      have d9 : _ = _ := hd 9 (by decide)
      refine wpOp_plain rfl rfl ?_
      obtain ⟨x0_0, x0_1, z0⟩ := BlkAt.c2 (hC.2)
      go_wp2_with fail
      refine (hnum W).mono ?_
      rintro e9 w9 ⟨rfl, f9⟩
      exact hK _ _ f9 ⟨hC.1.then' f9, hC.2.fr f9 id⟩ rfl
    · rw [if_neg (by decide)]; intro kq
      intro a W K hC hd hK
      have d1 : a.tmps[1]?.getD undef = .pointer (some ⟨w.heap.size, 0, none⟩) := hd 1 (by decide)
      refine wpOp_plain rfl rfl ?_
      obtain ⟨x0_0, x0_1, z0⟩ := BlkAt.c2 (hC.2)
      go_wp2_with fail
      exact hK _ _ (Fr.refl _ _) hC rfl
    · rw [if_neg (by decide)]; intro kq
      intro a W K hC hd hK
      have d11 : _ = _ := hd 11 (by decide)
      refine wpOp_plain rfl rfl ?_
      obtain ⟨x0_0, x0_1, z0⟩ := BlkAt.c2 (hC.2)
      go_wp2_with fail
      exact hK _ _ (Fr.refl _ _) hC rfl
    · rw [if_neg (by decide)]; intro kq
      intro a W K hC hd hK
      have d12 : _ = _ := hd 12 (by decide)
      refine wpOp_plain rfl rfl ?_
      obtain ⟨x0_0, x0_1, z0⟩ := BlkAt.c2 (hC.2)
      go_wp2_with fail
      refine (rowR_calls W none 0 0 [] (RowAt.nil _ _) rfl (by simp [sumSz]) (by omega)).mono ?_
      rintro e9 w9 ⟨rfl, f9⟩
      exact hK _ _ f9 ⟨hC.1.then' f9, hC.2.fr f9 id⟩ rfl
    · rw [if_neg (by decide)]; intro kq
      intro a W K hC hd hK
      have d10 : a.tmps[10]?.getD undef = .string (mkS (leB 1 e)) := hd 10 (by decide)
      have d13 : a.tmps[13]?.getD undef = .string (mkS (rowR [])) := hd 13 (by decide)
      refine wpOp_plain rfl rfl ?_
      go_wp2_with fail
      exact hK _ _ (Fr.refl _ _) hC rfl
    · rw [if_neg (by decide)]; intro kq
      exact calm_mv 14 rfl rfl (Or.inr rfl) (Fr.refl _) (by decide) fun v w hd => hd
  · intro vs w8 fw8 cw8 hV
    have v7 : vs 0 = _ := hV 0 _ _ rfl rfl (by decide)
    have v8 : vs 1 = _ := hV 1 _ _ rfl rfl (by decide)
    have v9 : vs 2 = _ := hV 2 _ _ rfl rfl (by decide)
    have v10 : vs 3 = .string (mkS (leB 1 e)) := hV 3 _ _ rfl rfl (by decide)
    have v11 : vs 4 = _ := hV 4 _ _ rfl rfl (by decide)
    have v12 : vs 5 = _ := hV 5 _ _ rfl rfl (by decide)
    have v13 : vs 6 = .string (mkS (rowR [])) := hV 6 _ _ rfl rfl (by decide)
    have v14 : vs 7 = _ := hV 7 _ _ rfl rfl (by decide)
    have v2 : vs 8 = _ := hV 8 _ _ rfl rfl (by decide)
    clear hV
    replace hb0 : BlkAt w8 (w.heap.size) 69 #[.int .i64 e, .slice none 0 0] := cw8.2
    replace f0 := f0.trans fw8 (fun i hi h => h.elim)
    clear cw8
    simp only [putL, Act.put, Nat.reduceAdd, List.setIfInBounds_toArray, List.set_cons_zero, List.set_cons_succ, v7, v8, v9, v10, v11, v12, v13, v14, v2]
    go_wp2_with fail
    go_ret
    exact ⟨by rw [HB.out, ← mkS_append]; rfl, f0⟩
theorem opPutR_calls (w : World) (e : Nat) (A : Option Addr) (n c : Nat) (l : List ByteArray) (he : e < 256) (hx : RowAt w A (strs l)) (HN : Hid (l.length = n)) (hsum : sumSz l ≤ 100000000000) (hn : n ≤ 1000000000000) :
    Calls Try.prog 109 #[.agg #[.int .i64 e, .slice A n c]] w (StrPost w (repR e l)) := by
  by_cases h0 : e = 0
  · exact opPutR0_calls w e A n c l he hx HN hsum hn h0
  · exact opPutR1_calls w e A n c l he hx HN hsum hn h0
end Go.Proofs.Ytpkdcbfhacgklaa
/- interrexref14.Get. -/
namespace Go.Proofs.Ytpkdcbfhacgklaa
open Go.RowKit

def RepRPost (w : World) (q : (Nat × List ByteArray) × Nat) (e : Ending) (w' : World) : Prop :=
  ∃ A n c, e = .returned (.tuple #[.agg #[.int .i64 (q.1.1 : Nat), .slice A n c], .int .i64 (q.2 : Nat)]) ∧ Hid (q.1.2.length = n) ∧ RowAt w' A (strs q.1.2) ∧ (∀ ad, A = some ad → w.heap.size ≤ ad.block) ∧ Fr noB w w'
theorem repGet_18 {bs : List UInt8} (h : 18 < (rNum ⟨bs, 0⟩ 1).2) : repGet bs = ((0, []), 4) := by
  have h1 : repR1 bs = ⟨[], 4⟩ := by
    unfold repR1; rw [if_pos h]
    unfold rFail; rw [if_pos ⟨rNum_pos (fun h => absurd rfl h) (by omega), by decide⟩]
  have h2 : rRow ⟨[], 4⟩ 400 400 = (⟨[], 4⟩, []) := rfl
  have h3 : repR3 bs = ⟨[], 4⟩ := by
    unfold repR3; rw [h1, h2, if_neg (by simp)]
  unfold repGet
  rw [h3, if_neg (by decide)]; rfl
theorem rRow_inv {r : Rd} (hi : r.inv) (m l : Int) : (rRow r m l).1.inv := by
  have : (rCount r m).1.inv := by
    unfold rCount; split
    · exact rFail_inv _ (rNum_inv 2 hi)
    · exact rNum_inv 2 hi
  exact rTexts_inv this l _
theorem rRow_left (r : Rd) (m l : Int) : (rRow r m l).1.bs.length ≤ r.bs.length := Nat.le_trans (rTexts_left _ _ _) (rCount_left r m)
theorem fr_s2 (w : World) (b : Nat) (u0 u1 : Value) : Fr (eqB b) w ((w.setCell ⟨b, 0, none⟩ u0).setCell ⟨b, 1, none⟩ u1) := (fr_set1 w b 0 u0).then' (fr_set1 _ b 1 u1)

end Go.Proofs.Ytpkdcbfhacgklaa
/- interrexref14: parts, Text, Check. -/
namespace Go.Proofs.Ytpkdcbfhacgklaa
open Go.RowKit

def partsL : List Int := [2, 1, 2, 1, 1, 2, 1, 1, 2, 1, 1, 2, 2, 1, 1, 0, -1]
def partsV (k : Nat) : Int := partsL.getD k 0
def textO (o : OpV) : List UInt8 := leB 1 o.k ++ (if 1 ≤ partsV o.k then textR o.a else []) ++ (if partsV o.k = 2 then textR o.b else []) ++ (if partsV o.k < 0 then leB 1 o.n ++ leB 1 o.r else [])
theorem byteStr (w : World) (y : Nat) (hy : y < 256) : (convert 46 9 (.slice (some ⟨w.heap.size, 0, none⟩) 1 1)).run Try.prog (w.alloc (.cells #[.int .u8 y] 5)) =
    .ok (.string (mkS (leB 1 y))) (w.alloc (.cells #[.int .u8 y] 5)) := by
  have h := Try.oneStr w y
  rw [show ((y : Int) % 256) = y from by omega] at h
  exact h
theorem byteStr2 (w : World) (x y : Nat) (hx : x < 256) (hy : y < 256) : (convert 46 9 (.slice (some ⟨w.heap.size, 0, none⟩) 2 2)).run Try.prog (w.alloc (.cells #[.int .u8 x, .int .u8 y] 5)) =
    .ok (.string (mkS (leB 1 x ++ leB 1 y))) (w.alloc (.cells #[.int .u8 x, .int .u8 y] 5)) := by
  refine Try.toStr (l := leB 1 x ++ leB 1 y) ?_ rfl 2
  have h := new_row w #[.int .u8 x, .int .u8 y] 5
  have e : bcells (leB 1 x ++ leB 1 y) = (#[Value.int .u8 x, .int .u8 y] : Array Value).toList := by
    simp [leB, bcells]
    omega
  rw [e]; exact h
theorem textO_length (o : OpV) : (textO o).length ≤ 7 + o.a.size + o.b.size := by
  unfold textO
  simp only [List.length_append, leB_length]
  split <;> split <;> split <;> simp [textR_length, leB_length] <;> omega

end Go.Proofs.Ytpkdcbfhacgklaa
/- interrexref14.Check. -/
namespace Go.Proofs.Ytpkdcbfhacgklaa
open Go.RowKit

def badR (o : OpV) : Bool := (decide (partsV o.k < 1) && decide (o.a ≠ ⟨#[]⟩)) || (decide (partsV o.k < 2) && decide (o.b ≠ ⟨#[]⟩)) || (decide (0 ≤ partsV o.k) && (decide (o.n ≠ 0) || decide (o.r ≠ 0)))
def bad2R (o : OpV) : Bool := decide (partsV o.k < 0) && (decide (6 < o.n) || decide (o.r < 1) || decide (3 < o.r))
def checkR (o : OpV) : Nat := if 17 ≤ o.k then 4 else if badR o = true then 4 else if bad2R o = true then 4 else if 64 < o.a.size ∨ 64 < o.b.size ∨ 64 < (textO o).length then 3 else 0
theorem toList_nil (s : ByteArray) : s.toList = [] ↔ s = ⟨#[]⟩ := by
  constructor
  · intro h; rw [← mkS_of s, ← ByteArray.toList_eq, h]; rfl
  · rintro rfl; exact mkS_toList []
theorem IntPost.mk' {w w' : World} {i j : Int} (h : i = j) (f : Fr noB w w') : IntPost w j (.returned (.int .i64 i)) w' := ⟨by rw [h], f⟩
end Go.Proofs.Ytpkdcbfhacgklaa
/- op.Read. -/
namespace Go.Proofs.Ytpkdcbfhacgklaa
open Go.RowKit

def zeroOp : OpV := ⟨0, ⟨#[]⟩, ⟨#[]⟩, 0, 0⟩
def opRd (bs : List UInt8) : Rd × Nat := rNum ⟨bs, 0⟩ 1
def opIn (bs : List UInt8) : OpV × Rd := if (opRd bs).1.e = 0 then (signsL.getD (opRd bs).2 []).foldl rdSign (⟨(opRd bs).2, ⟨#[]⟩, ⟨#[]⟩, 0, 0⟩, (opRd bs).1) else (⟨(opRd bs).2, ⟨#[]⟩, ⟨#[]⟩, 0, 0⟩, (opRd bs).1)
/-- op.Read, as a function. -/
def opRead (bs : List UInt8) : OpV × Nat :=
  if 64 < bs.length then (zeroOp, 3) else if 17 ≤ (opRd bs).2 then (zeroOp, 4) else if rEnd (opIn bs).2 = 0 then ((opIn bs).1, 0) else (zeroOp, rEnd (opIn bs).2)
def OpEPost (w : World) (q : OpV × Nat) (e : Ending) (w' : World) : Prop := e = .returned (.tuple #[q.1.v, .int .i64 (q.2 : Nat)]) ∧ Fr noB w w'
theorem rdSigns_snoc (s : OpV × Rd) {z : List UInt8} {k : Nat} {c : UInt8} (hc : z[k]? = some c) : (z.take (k + 1)).foldl rdSign s = rdSign ((z.take k).foldl rdSign s) c := by
  rw [take_snoc' hc, List.foldl_append]; rfl
theorem fr_set5 (w : World) (b : Nat) (u0 u1 u2 u3 u4 : Value) : Fr (eqB b) w (((((w.setCell ⟨b, 0, none⟩ u0).setCell ⟨b, 1, none⟩ u1).setCell ⟨b, 2, none⟩ u2).setCell ⟨b, 3, none⟩ u3).setCell ⟨b, 4, none⟩ u4) :=
  ((((fr_set1 w b 0 u0).then' (fr_set1 _ b 1 u1)).then' (fr_set1 _ b 2 u2)).then' (fr_set1 _ b 3 u3)).then' (fr_set1 _ b 4 u4)

end Go.Proofs.Ytpkdcbfhacgklaa
/- interrexref14.Read. -/
namespace Go.Proofs.Ytpkdcbfhacgklaa
open Go.RowKit

theorem opRead_long {bs : List UInt8} (h : 64 < bs.length) : opRead bs = (zeroOp, 3) := by unfold opRead; rw [if_pos h]
theorem opRead_nil : opRead [] = (zeroOp, 2) := by
  have h : opRd [] = (⟨[], 2⟩, 0) := rfl
  have h2 : opIn [] = (zeroOp, ⟨[], 2⟩) := by unfold opIn; rw [h]; rfl
  unfold opRead
  rw [h, h2]; rfl
theorem opRd_cons (c : UInt8) (t : List UInt8) : opRd (c :: t) = (⟨t, 0⟩, c.toNat) := by
  unfold opRd rNum rTake
  simp [leV]
theorem opRead_kind {c : UInt8} {t : List UInt8} (h : ¬ 64 < (c :: t).length) (h2 : 17 ≤ c.toNat) : opRead (c :: t) = (zeroOp, 4) := by
  unfold opRead; rw [if_neg h, opRd_cons, if_pos h2]
theorem opRead_cons {c : UInt8} {t : List UInt8} {z : List UInt8} (h : ¬ 64 < (c :: t).length) (hz : signsL[c.toNat]? = some z) :
    opRead (c :: t) = if rEnd (z.foldl rdSign (⟨c.toNat, ⟨#[]⟩, ⟨#[]⟩, 0, 0⟩, ⟨t, 0⟩)).2 = 0 then ((z.foldl rdSign (⟨c.toNat, ⟨#[]⟩, ⟨#[]⟩, 0, 0⟩, ⟨t, 0⟩)).1, 0) else (zeroOp, rEnd (z.foldl rdSign (⟨c.toNat, ⟨#[]⟩, ⟨#[]⟩, 0, 0⟩, ⟨t, 0⟩)).2) := by
  have h2 : ¬ 17 ≤ c.toNat := by have := (List.getElem?_eq_some_iff.1 hz).1; simp [signsL] at this; omega
  unfold opRead
  rw [if_neg h, opRd_cons, if_neg h2]
  have : opIn (c :: t) = z.foldl rdSign (⟨c.toNat, ⟨#[]⟩, ⟨#[]⟩, 0, 0⟩, ⟨t, 0⟩) := by
    unfold opIn; rw [opRd_cons, if_pos rfl, List.getD_eq_getElem?_getD, hz]; rfl
  rw [this]
theorem parts_signs {k : Nat} {z : List UInt8} (hz : signsL[k]? = some z) : (partsV k = 2 ∧ z = [97, 98]) ∨ (partsV k = 1 ∧ z = [97]) ∨ (partsV k = 0 ∧ z = []) ∨ (partsV k = -1 ∧ z = [110, 114]) := by
  have hk : k < 17 := (List.getElem?_eq_some_iff.1 hz).1
  have : ∀ k : Fin 17, let z := signsL.getD k.val []; let P := partsV k.val; (P = 2 ∧ z = [97, 98]) ∨ (P = 1 ∧ z = [97]) ∨ (P = 0 ∧ z = []) ∨ (P = -1 ∧ z = [110, 114]) := by decide
  have h := this ⟨k, hk⟩
  simp only [List.getD_eq_getElem?_getD, hz, Option.getD_some] at h
  exact h

theorem right114_false {k : Nat} {a b : ByteArray} {n r : Nat} (h : ¬ (1 ≤ r ∧ r ≤ 3)) : rightV ⟨k, a, b, n, r⟩ 114 = false := by
  unfold rightV; rw [if_neg (by decide), if_pos rfl]
  simp only [Bool.and_eq_false_iff, decide_eq_false_iff_not]
  omega
end Go.Proofs.Ytpkdcbfhacgklaa
/- Operations: what is written is read, and what is read is written (no program). -/
namespace Go.Proofs.Ytpkdcbfhacgklaa
open Go.RowKit

/-! ### readers, turned round -/
theorem leB_leV (xs : List UInt8) : leB xs.length (leV xs) = xs := by
  induction xs with
  | nil => rfl
  | cons b xs ih =>
    simp only [List.length_cons, leB, leV]
    have h1 : UInt8.ofNat (b.toNat + 256 * leV xs) = b := by
      apply UInt8.toNat_inj.1
      simp
    have h2 : (b.toNat + 256 * leV xs) / 256 = leV xs := by have := b.toNat_lt; omega
    rw [h1, h2, ih]
theorem rFail_e (r : Rd) {k : Nat} (hk : k ≠ 0) : (rFail r k).e ≠ 0 := by
  unfold rFail
  split
  · exact hk
  · rename_i h; intro h2; exact h ⟨h2, hk⟩
theorem rTake_ok {r r1 : Rd} {n : Nat} {x : List UInt8} (h : rTake r n = (r1, x)) (h0 : r1.e = 0) : r.e = 0 ∧ r.bs = x ++ r1.bs ∧ x.length = n := by
  unfold rTake at h
  split at h
  · cases h; exact absurd h0 (rFail_e r (by decide))
  · cases h; exact ⟨h0, (List.take_append_drop n r.bs).symm, by simp only [List.length_take]; omega⟩
theorem rNum_ok {r r1 : Rd} {n v : Nat} (h : rNum r n = (r1, v)) (h0 : r1.e = 0) : r.e = 0 ∧ r.bs = leB n v ++ r1.bs ∧ v < 256 ^ n := by
  have hl := rNum_lt r n
  unfold rNum at h
  cases hq : rTake r n with
  | mk q x =>
    rw [hq] at h
    cases h
    obtain ⟨h1, h2, h3⟩ := rTake_ok hq h0
    refine ⟨h1, ?_, by rw [← h3]; exact leV_lt x⟩
    rw [← h3, leB_leV]; exact h2
theorem rCount_ok {r r1 : Rd} {most : Int} {v : Nat} (h : rCount r most = (r1, v)) (h0 : r1.e = 0) : r.e = 0 ∧ r.bs = leB 2 v ++ r1.bs ∧ v < 65536 ∧ (v : Int) ≤ max 0 most := by
  unfold rCount at h
  split at h
  · cases h; exact absurd h0 (rFail_e _ (by decide))
  · rename_i hn
    obtain ⟨h1, h2, h3⟩ := rNum_ok h h0
    refine ⟨h1, h2, h3, ?_⟩
    rw [h] at hn; simp only [] at hn; omega
theorem rText_ok {r r1 : Rd} {most : Int} {x : List UInt8} (h : rText r most = (r1, x)) (h0 : r1.e = 0) : r.e = 0 ∧ r.bs = textB (mkS x) ++ r1.bs ∧ x.length < 65536 ∧ (x.length : Int) ≤ max 0 most := by
  unfold rText at h
  cases hq : rCount r most with
  | mk q v =>
    rw [hq] at h
    obtain ⟨h1, h2, h3⟩ := rTake_ok h h0
    obtain ⟨g1, g2, g3, g4⟩ := rCount_ok hq h1
    simp only [] at h2 h3
    refine ⟨g1, ?_, by omega, by rw [h3]; exact g4⟩
    rw [g2, h2]
    unfold textB
    rw [mkS_size, mkS_data, h3, Nat.min_eq_left (by omega), List.take_of_length_le (by omega), List.append_assoc]
theorem rEnd_zero {r : Rd} (h : rEnd r = 0) : r.e = 0 ∧ r.bs = [] := by
  unfold rEnd at h
  split at h
  · cases h
  · rename_i h2
    refine ⟨h, ?_⟩
    rcases hb : r.bs with _ | ⟨b, l⟩
    · rfl
    · exact absurd ⟨h, by rw [hb]; simp⟩ h2
theorem rdSign_ok {o o' : OpV} {r r' : Rd} {c : UInt8} (h : rdSign (o, r) c = (o', r')) (h0 : r'.e = 0) : rdPart o r c = (o', r') ∧ rightV o' c = true := by
  unfold rdSign at h
  cases hq : rdPart o r c with
  | mk p q =>
    rw [hq] at h
    simp only [] at h
    cases hr : rightV p c
    · by_cases he : q.e = 0
      · rw [if_pos ⟨he, hr⟩] at h; cases h; exact absurd h0 (rFail_e _ (by decide))
      · rw [if_neg (fun h => he h.1)] at h; cases h; exact absurd h0 he
    · rw [if_neg (by rw [hr]; simp)] at h; cases h; exact ⟨rfl, hr⟩
/-! ### texts and forms -/
theorem zOf_of {k : Nat} {o : OpV} {z : List UInt8} (hk : o.k = k) (hz : signsL[k]? = some z) : zOf o = z := by
  unfold zOf; rw [hk, List.getD_eq_getElem?_getD, hz]; rfl
theorem textO_eq {o : OpV} (hk : o.k < 17) (ha : o.a.size ≤ 65535) (hb : o.b.size ≤ 65535) : textO o = writeB o (zOf o) := by
  have hz := zOf_get hk
  unfold textO writeB
  rw [textR_eq ha, textR_eq hb]
  rcases parts_signs hz with ⟨h1, h2⟩ | ⟨h1, h2⟩ | ⟨h1, h2⟩ | ⟨h1, h2⟩
  · rw [h1, h2, if_pos (by decide), if_pos rfl, if_neg (by decide)]
    simp [signB]
  · rw [h1, h2, if_pos (by decide), if_neg (by decide), if_neg (by decide)]
    simp [signB]
  · rw [h1, h2, if_neg (by decide), if_neg (by decide), if_neg (by decide)]
    simp
  · rw [h1, h2, if_neg (by decide), if_neg (by decide), if_pos (by decide)]
    simp [signB]
open Classical in
theorem bareB_iff {o : OpV} (hk : o.k < 17) : bareB o = true ↔ badR o = false := by
  have hz := zOf_get hk
  unfold bareB badR
  rw [decide_eq_true_eq, OpV.eq_iff]
  rcases parts_signs hz with ⟨h1, h2⟩ | ⟨h1, h2⟩ | ⟨h1, h2⟩ | ⟨h1, h2⟩
  all_goals
    rw [h1, h2]
    simp [bareFrom, setS, and_assoc]
theorem right_iff {o : OpV} (hk : o.k < 17) : (zOf o).all (rightV o) = true ↔ bad2R o = false := by
  have hz := zOf_get hk
  unfold bad2R
  rcases parts_signs hz with ⟨h1, h2⟩ | ⟨h1, h2⟩ | ⟨h1, h2⟩ | ⟨h1, h2⟩
  all_goals
    rw [h1, h2]
    simp [rightV]
  omega
theorem bare_len {o : OpV} (hk : o.k < 17) (hb : bareB o = true) : o.a.size + o.b.size ≤ 64 ∨ 64 < (textO o).length := by
  have hz := zOf_get hk
  rw [bareB_iff hk] at hb
  unfold badR at hb
  unfold textO
  have e0 : (⟨#[]⟩ : ByteArray).size = 0 := rfl
  rcases parts_signs hz with ⟨h1, h2⟩ | ⟨h1, h2⟩ | ⟨h1, h2⟩ | ⟨h1, h2⟩
  all_goals
    rw [h1] at hb ⊢
    simp at hb ⊢
    simp only [List.length_append, textR_length, leB_length]
  · omega
  · rw [hb.1, e0]; omega
  · rw [hb.1.1, hb.1.2, e0]; omega
  · rw [hb.1, hb.2, e0]; omega
theorem check_eq (o : OpV) : checkR o = checkV o := by
  unfold checkR checkV
  by_cases h17 : 17 ≤ o.k
  · rw [if_pos h17, if_pos h17]
  · rw [if_neg h17, if_neg h17]
    have hk : o.k < 17 := by omega
    have h1 := bareB_iff hk
    have h2 := right_iff hk
    cases hb : bareB o
    · have : badR o = true := by cases h : badR o; rw [h1.2 h] at hb; cases hb; rfl
      rw [if_pos this, if_pos rfl]
    · have hbr := h1.1 hb
      simp only [hbr, Bool.false_eq_true, Bool.true_eq_false, if_false]
      cases hr : (zOf o).all (rightV o)
      · have : bad2R o = true := by cases h : bad2R o; rw [h2.2 h] at hr; cases hr; rfl
        rw [if_pos this, if_pos rfl]
      · have hrr := h2.1 hr
        simp only [hrr, Bool.false_eq_true, Bool.true_eq_false, if_false]
        rcases bare_len hk hb with h | h
        · rw [textO_eq hk (by omega) (by omega), if_neg (by omega : ¬ 64 < o.a.size + o.b.size)]
          by_cases h3 : 64 < (writeB o (zOf o)).length
          · rw [if_pos (Or.inr (Or.inr h3)), if_pos h3]
          · rw [if_neg (by omega), if_neg h3]
        · rw [if_pos (Or.inr (Or.inr h))]
          by_cases h3 : 64 < o.a.size + o.b.size
          · rw [if_pos h3]
          · rw [if_neg h3, if_pos (by rw [← textO_eq hk (by omega) (by omega)]; exact h)]
/-! ### there and back -/
theorem opRead_write {o : OpV} (hw : o.wf) (h : checkV o = 0) : opRead (writeB o (zOf o)) = (o, 0) := by
  obtain ⟨hk, hb, hr, hab, hl⟩ := checkV_ok h
  have hz := zOf_get hk
  obtain ⟨k, a, b, n, q⟩ := o
  obtain ⟨w1, w2, w3⟩ := hw
  simp only [] at *
  rw [bareB_iff hk] at hb
  rw [right_iff hk] at hr
  unfold badR at hb
  unfold bad2R at hr
  have hc : UInt8.toNat (UInt8.ofNat k) = k := by simp; omega
  have hz' : signsL[(UInt8.ofNat k).toNat]? = some (zOf ⟨k, a, b, n, q⟩) := by rw [hc]; exact hz
  have hcons : ∀ l, leB 1 k ++ l = UInt8.ofNat k :: l := fun l => rfl
  have hn := rNum_app 1 n
  have hq := rNum_app 1 q
  have ha := fun ys => rText_app a ys 65535 (by omega) (by omega)
  have hbb := fun ys => rText_app b ys 65535 (by omega) (by omega)
  have m1 : n % 256 ^ 1 = n := by omega
  have m2 : q % 256 ^ 1 = q := by omega
  rw [m1] at hn
  rw [m2] at hq
  have hrd : ∀ l, writeB ⟨k, a, b, n, q⟩ (zOf ⟨k, a, b, n, q⟩) = leB 1 k ++ l → ∀ s : OpV × Rd, (zOf ⟨k, a, b, n, q⟩).foldl rdSign (⟨k, ⟨#[]⟩, ⟨#[]⟩, 0, 0⟩, ⟨l, 0⟩) = (⟨k, a, b, n, q⟩, ⟨[], 0⟩) → opRead (writeB ⟨k, a, b, n, q⟩ (zOf ⟨k, a, b, n, q⟩)) = (⟨k, a, b, n, q⟩, 0) := by
    intro l hl2 _ hf
    rw [hl2, hcons, opRead_cons (by rw [← hcons, ← hl2]; omega) hz', hc, hf]
    rfl
  have am : mkS a.data.toList = a := mkS_of a
  have bm : mkS b.data.toList = b := mkS_of b
  rcases parts_signs hz with ⟨h1, h2⟩ | ⟨h1, h2⟩ | ⟨h1, h2⟩ | ⟨h1, h2⟩
  · rw [h1] at hb hr
    simp at hb
    obtain ⟨rfl, rfl⟩ := hb
    refine hrd (textB a ++ textB b) (by rw [h2]; simp [writeB, signB]) (⟨k, a, b, 0, 0⟩, ⟨[], 0⟩) ?_
    rw [h2]
    have e1 : rdSign (⟨k, ⟨#[]⟩, ⟨#[]⟩, 0, 0⟩, ⟨textB a ++ textB b, 0⟩) 97 = (⟨k, a, ⟨#[]⟩, 0, 0⟩, ⟨textB b, 0⟩) := rdSign_keep (by unfold rdPart; rw [if_pos rfl, ha, am]) (Or.inr rfl)
    have e2 : rdSign (⟨k, a, ⟨#[]⟩, 0, 0⟩, ⟨textB b, 0⟩) 98 = (⟨k, a, b, 0, 0⟩, ⟨[], 0⟩) := rdSign_keep (by have := hbb []; rw [List.append_nil] at this; unfold rdPart; rw [if_neg (by decide), if_pos rfl, this, bm]) (Or.inr rfl)
    rw [List.foldl_cons, e1, List.foldl_cons, e2]; rfl
  · rw [h1] at hb hr
    simp at hb
    obtain ⟨rfl, rfl, rfl⟩ := hb
    refine hrd (textB a) (by rw [h2]; simp [writeB, signB]) (⟨k, a, ⟨#[]⟩, 0, 0⟩, ⟨[], 0⟩) ?_
    rw [h2]
    have e1 : rdSign (⟨k, ⟨#[]⟩, ⟨#[]⟩, 0, 0⟩, ⟨textB a, 0⟩) 97 = (⟨k, a, ⟨#[]⟩, 0, 0⟩, ⟨[], 0⟩) := rdSign_keep (by have := ha []; rw [List.append_nil] at this; unfold rdPart; rw [if_pos rfl, this, am]) (Or.inr rfl)
    rw [List.foldl_cons, e1]; rfl
  · rw [h1] at hb hr
    simp at hb
    obtain ⟨⟨rfl, rfl⟩, rfl, rfl⟩ := hb
    exact hrd [] (by rw [h2]; simp [writeB]) (⟨k, ⟨#[]⟩, ⟨#[]⟩, 0, 0⟩, ⟨[], 0⟩) (by rw [h2]; rfl)
  · rw [h1] at hb hr
    simp at hb hr
    obtain ⟨rfl, rfl⟩ := hb
    refine hrd (leB 1 n ++ leB 1 q) (by rw [h2]; simp [writeB, signB]) (⟨k, ⟨#[]⟩, ⟨#[]⟩, n, q⟩, ⟨[], 0⟩) ?_
    rw [h2]
    have e1 : rdSign (⟨k, ⟨#[]⟩, ⟨#[]⟩, 0, 0⟩, ⟨leB 1 n ++ leB 1 q, 0⟩) 110 = (⟨k, ⟨#[]⟩, ⟨#[]⟩, n, 0⟩, ⟨leB 1 q, 0⟩) := rdSign_keep (by unfold rdPart; rw [if_neg (by decide), if_neg (by decide), if_pos rfl, hn]) (Or.inr (by unfold rightV; rw [if_pos rfl]; exact decide_eq_true (by simp only []; omega)))
    have e2 : rdSign (⟨k, ⟨#[]⟩, ⟨#[]⟩, n, 0⟩, ⟨leB 1 q, 0⟩) 114 = (⟨k, ⟨#[]⟩, ⟨#[]⟩, n, q⟩, ⟨[], 0⟩) := rdSign_keep (by have := hq []; rw [List.append_nil] at this; unfold rdPart; rw [if_neg (by decide), if_neg (by decide), if_neg (by decide), if_pos rfl, this]) (Or.inr (by unfold rightV; rw [if_neg (by decide), if_pos rfl, Bool.and_eq_true]; exact ⟨decide_eq_true (by simp only []; omega), decide_eq_true (by simp only []; omega)⟩))
    rw [List.foldl_cons, e1, List.foldl_cons, e2]; rfl
theorem opRead_ok {bs : List UInt8} {o : OpV} (h : opRead bs = (o, 0)) : o.wf ∧ checkV o = 0 ∧ writeB o (zOf o) = bs ∧ o.a.size + o.b.size ≤ 64 := by
  have h64 : ¬ 64 < bs.length := fun h2 => by rw [opRead_long h2] at h; cases h
  cases bs with
  | nil => rw [opRead_nil] at h; cases h
  | cons c t =>
    have hk : c.toNat < 17 := by
      refine Classical.byContradiction fun h2 => ?_
      rw [opRead_kind h64 (by omega)] at h; cases h
    obtain ⟨z, hz⟩ : ∃ z, signsL[c.toNat]? = some z := ⟨_, List.getElem?_eq_getElem (by simp [signsL]; omega)⟩
    rw [opRead_cons h64 hz] at h
    split at h
    · rename_i h0
      obtain ⟨he, hbs⟩ := rEnd_zero h0
      have hc0 : ∀ l, leB 1 c.toNat ++ l = c :: l := fun l => by simp [leB]
      have hfin : ∀ (o : OpV), o.k = c.toNat → o.n < 256 → o.r < 256 → writeB o z = c :: t → badR o = false → bad2R o = false → o.a.size + o.b.size ≤ 64 → o.wf ∧ checkV o = 0 ∧ writeB o (zOf o) = c :: t ∧ o.a.size + o.b.size ≤ 64 := by
        intro o k0 k1 k2 k3 k4 k5 k6
        have hk' : o.k < 17 := by omega
        have hzo := zOf_of k0 hz
        refine ⟨⟨by omega, k1, k2⟩, ?_, by rw [hzo]; exact k3, k6⟩
        unfold checkV
        rw [if_neg (by omega), if_neg (by rw [(bareB_iff hk').2 k4]; decide), if_neg (by rw [(right_iff hk').2 k5]; decide), if_neg (by omega), hzo, k3, if_neg h64]
      rcases parts_signs hz with ⟨h1, rfl⟩ | ⟨h1, rfl⟩ | ⟨h1, rfl⟩ | ⟨h1, rfl⟩
      · simp only [List.foldl_cons, List.foldl_nil] at h he hbs
        cases h2 : rdSign (⟨c.toNat, ⟨#[]⟩, ⟨#[]⟩, 0, 0⟩, ⟨t, 0⟩) 97 with
        | mk o1 r1 =>
          rw [h2] at h he hbs
          cases h3 : rdSign (o1, r1) 98 with
          | mk o2 r2 =>
            rw [h3] at h he hbs
            cases h
            simp only [] at he hbs
            obtain ⟨g1, _⟩ := rdSign_ok h3 he
            unfold rdPart at g1
            rw [if_neg (by decide), if_pos rfl] at g1
            cases g3 : rText r1 65535 with
            | mk r x =>
              rw [g3] at g1
              cases g1
              obtain ⟨e1, e2, e3, _⟩ := rText_ok g3 he
              obtain ⟨g4, _⟩ := rdSign_ok h2 e1
              unfold rdPart at g4
              rw [if_pos rfl] at g4
              cases g5 : rText ⟨t, 0⟩ 65535 with
              | mk r' x' =>
                rw [g5] at g4
                cases g4
                obtain ⟨_, f2, f3, _⟩ := rText_ok g5 e1
                simp only [] at f2
                rw [e2, hbs, List.append_nil] at f2
                have hlen := congrArg List.length f2
                have l1 : (textB (mkS x')).length = 2 + x'.length := by unfold textB; rw [List.length_append, leB_length, List.length_take, mkS_data]; omega
                have l2 : (textB (mkS x)).length = 2 + x.length := by unfold textB; rw [List.length_append, leB_length, List.length_take, mkS_data]; omega
                rw [List.length_append, l1, l2] at hlen
                simp only [List.length_cons] at h64
                refine hfin _ rfl (show (0 : Nat) < 256 by decide) (show (0 : Nat) < 256 by decide) ?_ (by unfold badR; simp only []; rw [h1]; rfl) (by unfold bad2R; simp only []; rw [h1]; rfl) (by simp only [mkS_size]; omega)
                rw [f2]
                simp [writeB, signB, leB]
      · simp only [List.foldl_cons, List.foldl_nil] at h he hbs
        cases h2 : rdSign (⟨c.toNat, ⟨#[]⟩, ⟨#[]⟩, 0, 0⟩, ⟨t, 0⟩) 97 with
        | mk o1 r1 =>
          rw [h2] at h he hbs
          cases h
          simp only [] at he hbs
          obtain ⟨g4, _⟩ := rdSign_ok h2 he
          unfold rdPart at g4
          rw [if_pos rfl] at g4
          cases g5 : rText ⟨t, 0⟩ 65535 with
          | mk r' x' =>
            rw [g5] at g4
            cases g4
            obtain ⟨_, f2, f3, _⟩ := rText_ok g5 he
            simp only [] at f2
            rw [hbs, List.append_nil] at f2
            have hlen := congrArg List.length f2
            have l1 : (textB (mkS x')).length = 2 + x'.length := by unfold textB; rw [List.length_append, leB_length, List.length_take, mkS_data]; omega
            rw [l1] at hlen
            simp only [List.length_cons] at h64
            refine hfin _ rfl (show (0 : Nat) < 256 by decide) (show (0 : Nat) < 256 by decide) ?_ (by unfold badR; simp only []; rw [h1]; rfl) (by unfold bad2R; simp only []; rw [h1]; rfl) (by simp only [mkS_size, show (⟨#[]⟩ : ByteArray).size = 0 from rfl]; omega)
            rw [f2]
            simp [writeB, signB, leB]
      · simp only [List.foldl_nil] at h he hbs
        cases h
        subst hbs
        exact hfin _ rfl (show (0 : Nat) < 256 by decide) (show (0 : Nat) < 256 by decide) (by simp [writeB, leB]) (by unfold badR; simp only []; rw [h1]; rfl) (by unfold bad2R; simp only []; rw [h1]; rfl) (show (⟨#[]⟩ : ByteArray).size + (⟨#[]⟩ : ByteArray).size ≤ 64 by decide)
      · simp only [List.foldl_cons, List.foldl_nil] at h he hbs
        cases h2 : rdSign (⟨c.toNat, ⟨#[]⟩, ⟨#[]⟩, 0, 0⟩, ⟨t, 0⟩) 110 with
        | mk o1 r1 =>
          rw [h2] at h he hbs
          cases h3 : rdSign (o1, r1) 114 with
          | mk o2 r2 =>
            rw [h3] at h he hbs
            cases h
            simp only [] at he hbs
            obtain ⟨g1, v1⟩ := rdSign_ok h3 he
            unfold rdPart at g1
            rw [if_neg (by decide), if_neg (by decide), if_neg (by decide), if_pos rfl] at g1
            cases g3 : rNum r1 1 with
            | mk r x =>
              rw [g3] at g1
              cases g1
              obtain ⟨e1, e2, e3⟩ := rNum_ok g3 he
              obtain ⟨g4, v2⟩ := rdSign_ok h2 e1
              unfold rdPart at g4
              rw [if_neg (by decide), if_neg (by decide), if_pos rfl] at g4
              cases g5 : rNum ⟨t, 0⟩ 1 with
              | mk r' x' =>
                rw [g5] at g4
                cases g4
                obtain ⟨_, f2, f3⟩ := rNum_ok g5 e1
                simp only [] at f2
                rw [e2, hbs, List.append_nil] at f2
                unfold rightV at v1 v2
                rw [if_neg (by decide), if_pos rfl] at v1
                rw [if_pos rfl] at v2
                simp at v1 v2
                refine hfin _ rfl (by simp only []; omega) (by simp only []; omega) ?_ (by unfold badR; simp only []; rw [h1]; simp) (by unfold bad2R; simp only []; rw [h1]; simp; omega) (show (⟨#[]⟩ : ByteArray).size + (⟨#[]⟩ : ByteArray).size ≤ 64 by decide)
                rw [f2]
                simp [writeB, signB, leB]
    · rename_i h0
      exact absurd (congrArg Prod.snd h) h0
end Go.Proofs.Ytpkdcbfhacgklaa
/- Replies: what is written is read, and what is read is written (no program). -/
namespace Go.Proofs.Ytpkdcbfhacgklaa
open Go.RowKit

theorem rTexts_ok {r : Rd} {long : Int} : ∀ (n : Nat), (rTexts r long n).1.e = 0 → r.e = 0 ∧ r.bs = (rTexts r long n).2.flatMap textB ++ (rTexts r long n).1.bs ∧ ∀ s ∈ (rTexts r long n).2, s.size < 65536 ∧ (s.size : Int) ≤ max 0 long
  | 0, h => ⟨h, by simp [rTexts], fun s hs => by simp [rTexts] at hs⟩
  | n + 1, h => by
    simp only [rTexts] at h ⊢
    cases hq : rText (rTexts r long n).1 long with
    | mk r1 x =>
      rw [hq] at h
      obtain ⟨h1, h2, h3, h4⟩ := rText_ok hq h
      obtain ⟨g1, g2, g3⟩ := rTexts_ok n h1
      refine ⟨g1, ?_, ?_⟩
      · rw [List.flatMap_append, List.append_assoc]
        simp only [List.flatMap_cons, List.flatMap_nil, List.append_nil]
        rw [← h2]; exact g2
      · intro s hs
        rw [List.mem_append] at hs
        rcases hs with hs | hs
        · exact g3 s hs
        · simp at hs; subst hs; rw [mkS_size]; exact ⟨h3, h4⟩
theorem rRow_back {r r1 : Rd} {most long : Int} {l : List ByteArray} (h : rRow r most long = (r1, l)) (h0 : r1.e = 0) : r.e = 0 ∧ r.bs = rowB l ++ r1.bs ∧ (l.length : Int) ≤ max 0 most ∧ l.length < 65536 ∧ ∀ s ∈ l, s.size < 65536 ∧ (s.size : Int) ≤ max 0 long := by
  unfold rRow at h
  cases hq : rCount r most with
  | mk q n =>
    rw [hq] at h
    simp only [] at h
    have e1 : (rTexts q long n).1 = r1 := congrArg Prod.fst h
    rw [e1, if_pos h0] at h
    have e2 : (rTexts q long n).2 = l := congrArg Prod.snd h
    obtain ⟨g1, g2, g3⟩ := rTexts_ok n (by rw [e1]; exact h0)
    have hlen := rTexts_len q long n
    rw [e2] at g2 g3 hlen
    rw [e1] at g2
    obtain ⟨k1, k2, k3, k4⟩ := rCount_ok hq g1
    refine ⟨k1, ?_, by rw [hlen]; exact k4, by omega, g3⟩
    rw [k2, g2]
    unfold rowB
    rw [hlen, Nat.min_eq_left (by omega), List.take_of_length_le (by omega), List.append_assoc]
theorem repGet_ok {b : List UInt8} {e : Nat} {l : List ByteArray} (h : repGet b = ((e, l), 0)) : e < 256 ∧ repB e l = b ∧ l.length ≤ 400 ∧ ∀ s ∈ l, s.size ≤ 400 := by
  unfold repGet at h
  split at h
  · rename_i h0
    obtain ⟨h1, h2⟩ := rEnd_zero h0
    unfold repR3 at h1 h2
    cases hq : rNum ⟨b, 0⟩ 1 with
    | mk q k =>
      have hr1 : repR1 b = if 18 < k then rFail q 4 else q := by unfold repR1; rw [hq]
      rw [hq] at h h1 h2
      simp only [] at h1 h2
      cases hw : rRow (repR1 b) 400 400 with
      | mk r2 l2 =>
        rw [hw] at h h1 h2
        cases h
        simp only [] at h1 h2
        show k < 256 ∧ repB k l2 = b ∧ l2.length ≤ 400 ∧ ∀ s ∈ l2, s.size ≤ 400
        by_cases hc : k ≠ 0 ∧ 0 < l2.length
        · rw [if_pos hc] at h1; exact absurd h1 (rFail_e _ (by decide))
        · rw [if_neg hc] at h1 h2
          obtain ⟨g1, g2, g3, _, g5⟩ := rRow_back hw h1
          rw [hr1] at g1 g2
          by_cases h18 : 18 < k
          · rw [if_pos h18] at g1; exact absurd g1 (rFail_e _ (by decide))
          · rw [if_neg h18] at g1 g2
            obtain ⟨_, k2, _⟩ := rNum_ok hq g1
            simp only [] at k2
            refine ⟨by omega, ?_, by omega, fun s hs => by have := (g5 s hs).2; omega⟩
            rw [k2, g2, h2, List.append_nil]
            unfold repB
            by_cases he : k = 0
            · rw [if_pos he]
            · rw [if_neg he]
              have : l2 = [] := by
                rcases l2 with _ | ⟨x, l2⟩
                · rfl
                · exact absurd ⟨he, by simp⟩ hc
              rw [this]
  · rename_i h0
    exact absurd (congrArg Prod.snd h) h0
theorem repGet_put {e : Nat} {l : List ByteArray} (he : e < 19) (hl : l.length ≤ 400) (hs : ∀ s ∈ l, s.size ≤ 400) : repGet (repB e l) = ((e, if e = 0 then l else []), 0) := by
  have h1 : rNum ⟨repB e l, 0⟩ 1 = (⟨rowB (if e = 0 then l else []), 0⟩, e) := by
    unfold repB
    rw [rNum_app]
    rw [show e % 256 ^ 1 = e by omega]
  have h2 : repR1 (repB e l) = ⟨rowB (if e = 0 then l else []), 0⟩ := by unfold repR1; rw [h1, if_neg (by simp only []; omega)]
  have h3 : rRow (repR1 (repB e l)) 400 400 = (⟨[], 0⟩, if e = 0 then l else []) := by
    rw [h2]
    have := rRow_app (if e = 0 then l else []) [] 400 400 (by split; omega; simp) (by split; omega; simp) (fun s hs' => by
      split at hs'
      · have := hs s hs'; omega
      · simp at hs')
    rwa [List.append_nil] at this
  have h4 : repR3 (repB e l) = ⟨[], 0⟩ := by
    unfold repR3
    rw [h1, h3, if_neg]
    rintro ⟨h5, h6⟩
    simp only [] at h5 h6
    rw [if_neg h5] at h6; simp at h6
  unfold repGet
  rw [h4, if_pos (show rEnd ⟨[], 0⟩ = 0 from rfl), h1, h3]
theorem repB_repR {e : Nat} {l : List ByteArray} (hl : l.length ≤ 65535) (hs : ∀ s ∈ l, s.size ≤ 65535) : repR e l = repB e l := by
  unfold repR repB
  rw [rowR_eq (by split; exact hl; simp) (fun s hs' => by
    split at hs'
    · exact hs s hs'
    · simp at hs')]
theorem sumSz_few : ∀ (l : List ByteArray) (k : Nat), (∀ s ∈ l, s.size ≤ k) → sumSz l ≤ (k + 2) * l.length
  | [], k, _ => by simp [sumSz]
  | s :: l, k, h => by
    have h1 := h s (by simp)
    have h2 := sumSz_few l k (fun x hx => h x (by simp [hx]))
    simp only [sumSz, List.map_cons, List.sum_cons, List.length_cons, Nat.mul_add] at *
    omega
end Go.Proofs.Ytpkdcbfhacgklaa
/- Tables: same bytes, same rows; numbers rise (no program). -/
namespace Go.Proofs.Ytpkdcbfhacgklaa
open Go.RowKit

/-- A row as it may be. -/
structure Good3 (x : T3) : Prop where
  num : x.1 < 18446744073709551616
  e : x.2.1 < 19
  kept : x.2.1 ≠ 0 → x.2.2 = []
  few : x.2.2.length ≤ 400
  small : ∀ s ∈ x.2.2, s.size ≤ 100
  zero : x.1 = 0 → x.2.1 = 0 ∧ x.2.2 = []
  sum : sumSz x.2.2 ≤ 50000
structure GoodT (t : List T3) : Prop where
  len : t.length = 8
  rows : ∀ x ∈ t, Good3 x
theorem zeroT_good : GoodT zeroT := ⟨rfl, fun x hx => by
  unfold zeroT at hx
  rw [List.mem_replicate] at hx
  rw [hx.2]
  exact ⟨by decide, by decide, fun _ => rfl, by decide, fun s hs => by simp at hs, fun _ => ⟨rfl, rfl⟩, by decide⟩⟩
theorem judge_lt {t : List T3} {i num : Nat} (h : judgeA t i num = 3) : i < 8 ∧ 0 < num ∧ num ≤ 1099511627776 ∧ lastA t i < num := by
  unfold judgeA at h
  split at h
  · cases h
  · split at h
    · cases h
    · split at h
      · cases h
      · omega
theorem putA_good {t : List T3} (h : GoodT t) {i num e : Nat} {l : List ByteArray} (he : e < 19) (hl : l.length ≤ 10) (hs : ∀ s ∈ l, s.size ≤ 50) : GoodT (putA t i num e l).1 := by
  unfold putA
  split
  · exact h
  · split
    · rename_i h3
      obtain ⟨h1, h2, h4, _⟩ := judge_lt h3
      refine ⟨by simp only [List.length_set]; exact h.len, fun x hx => ?_⟩
      rcases List.mem_or_eq_of_mem_set hx with hx | hx
      · exact h.rows x hx
      · subst hx
        have hk : keptL e l = if e = 0 then l else [] := rfl
        refine ⟨by simp only []; omega, he, fun h => by simp only [] at *; rw [hk, if_neg h], ?_, ?_, fun h => by simp only [] at h; omega, ?_⟩
        · simp only [hk]; split; omega; simp
        · intro s hs'
          simp only [hk] at hs'
          split at hs'
          · have := hs s hs'; omega
          · simp at hs'
        · simp only [hk]
          split
          · have := sumSz_few l 50 hs; omega
          · simp [sumSz]
    · exact h
theorem repB_small {x : T3} (h : Good3 x) : (repB x.2.1 x.2.2).length ≤ 65535 := by
  have := repB_length x.2.1 x.2.2
  have := h.sum
  omega
theorem rowT_inj {x y : T3} {u v : List UInt8} (hx : Good3 x) (hy : Good3 y) (h : rowT x ++ u = rowT y ++ v) : x = y ∧ u = v := by
  have hr : ∀ (z : T3) (u : List UInt8), Good3 z → rNum ⟨rowT z ++ u, 0⟩ 8 = (⟨(if 0 < z.1 then textB (mkS (repB z.2.1 z.2.2)) else []) ++ u, 0⟩, z.1) := fun z u hz => by
    unfold rowT
    rw [List.append_assoc, rNum_app]
    have := hz.num
    rw [Nat.mod_eq_of_lt (by simpa using this)]
  have e1 := hr x u hx
  have e2 := hr y v hy
  rw [h, e2] at e1
  have hn : y.1 = x.1 := congrArg Prod.snd e1
  have hb : (if 0 < y.1 then textB (mkS (repB y.2.1 y.2.2)) else []) ++ v = (if 0 < x.1 then textB (mkS (repB x.2.1 x.2.2)) else []) ++ u := congrArg (fun q => q.1.bs) e1
  rw [hn] at hb
  by_cases h0 : 0 < x.1
  · rw [if_pos h0, if_pos h0] at hb
    have ht : ∀ (z : T3) (u : List UInt8), Good3 z → rText ⟨textB (mkS (repB z.2.1 z.2.2)) ++ u, 0⟩ 65535 = (⟨u, 0⟩, repB z.2.1 z.2.2) := fun z u hz => by
      have := repB_small hz
      rw [rText_app _ _ _ (by rw [mkS_size]; omega) (by rw [mkS_size]; omega), mkS_data]
    have e3 := ht x u hx
    rw [← hb, ht y v hy] at e3
    have huv : v = u := congrArg (fun q => q.1.bs) e3
    have hrep : repB y.2.1 y.2.2 = repB x.2.1 x.2.2 := congrArg Prod.snd e3
    have hg : ∀ z : T3, Good3 z → repGet (repB z.2.1 z.2.2) = ((z.2.1, z.2.2), 0) := fun z hz => by
      rw [repGet_put hz.e (by have := hz.few; omega) (fun s hs => by have := hz.small s hs; omega)]
      by_cases he : z.2.1 = 0
      · rw [if_pos he]
      · rw [if_neg he, hz.kept he]
    have e4 := hg x hx
    rw [← hrep, hg y hy] at e4
    have e5 : (y.2.1, y.2.2) = (x.2.1, x.2.2) := congrArg Prod.fst e4
    refine ⟨?_, huv.symm⟩
    obtain ⟨a, b, c⟩ := x
    obtain ⟨a', b', c'⟩ := y
    simp only [Prod.mk.injEq] at *
    exact ⟨hn.symm, e5.1.symm, e5.2.symm⟩
  · rw [if_neg h0, if_neg h0] at hb
    obtain ⟨z1, z2⟩ := hx.zero (by omega)
    obtain ⟨z3, z4⟩ := hy.zero (by omega)
    refine ⟨?_, hb.symm⟩
    obtain ⟨a, b, c⟩ := x
    obtain ⟨a', b', c'⟩ := y
    simp only [Prod.mk.injEq] at *
    exact ⟨hn.symm, by omega, by rw [z2, z4]⟩
theorem tblB_inj : ∀ (t t' : List T3) (u v : List UInt8), t.length = t'.length → (∀ x ∈ t, Good3 x) → (∀ x ∈ t', Good3 x) → tblB t ++ u = tblB t' ++ v → t = t'
  | [], [], _, _, _, _, _, _ => rfl
  | [], _ :: _, _, _, h, _, _, _ => by simp at h
  | _ :: _, [], _, _, h, _, _, _ => by simp at h
  | x :: t, y :: t', u, v, hl, h1, h2, h => by
    unfold tblB at h
    rw [List.flatMap_cons, List.flatMap_cons, List.append_assoc, List.append_assoc] at h
    obtain ⟨rfl, h3⟩ := rowT_inj (h1 x (by simp)) (h2 y (by simp)) h
    rw [tblB_inj t t' u v (by simpa using hl) (fun z hz => h1 z (by simp [hz])) (fun z hz => h2 z (by simp [hz])) h3]
theorem tblB_iff {t t' : List T3} (h : GoodT t) (h' : GoodT t') : tblB t = tblB t' ↔ t = t' := by
  constructor
  · intro e
    exact tblB_inj t t' [] [] (by rw [h.len, h'.len]) h.rows h'.rows (by rw [e])
  · rintro rfl; rfl
def eqRow (t t' : List T3) (j : Nat) : Bool := decide (lastA t j = lastA t' j) && (decide ((repA t j).1 = (repA t' j).1) && (decide ((repA t j).1 ≠ 0) || decide ((repA t j).2 = (repA t' j).2)))
theorem eqRow_iff {t t' : List T3} (h : GoodT t) (h' : GoodT t') {j : Nat} (hj : j < 8) : eqRow t t' j = true ↔ t[j]? = t'[j]? := by
  obtain ⟨x, hx⟩ : ∃ x, t[j]? = some x := ⟨_, List.getElem?_eq_getElem (by rw [h.len]; exact hj)⟩
  obtain ⟨y, hy⟩ : ∃ y, t'[j]? = some y := ⟨_, List.getElem?_eq_getElem (by rw [h'.len]; exact hj)⟩
  have gx := h.rows x (List.mem_of_getElem? hx)
  have gy := h'.rows y (List.mem_of_getElem? hy)
  unfold eqRow lastA repA
  rw [hx, hy]
  obtain ⟨a, b, c⟩ := x
  obtain ⟨a', b', c'⟩ := y
  have k1 := gx.kept
  have k2 := gy.kept
  simp only [Option.map_some, Option.getD_some, Bool.and_eq_true, Bool.or_eq_true, decide_eq_true_eq, Option.some.injEq, Prod.mk.injEq] at *
  constructor
  · rintro ⟨h1, h2, h3⟩
    refine ⟨h1, h2, ?_⟩
    rcases h3 with h3 | h3
    · rw [k1 h3, k2 (by rw [← h2]; exact h3)]
    · exact h3
  · rintro ⟨rfl, rfl, rfl⟩
    exact ⟨rfl, rfl, Or.inr rfl⟩
theorem eqRows_iff {t t' : List T3} (h : GoodT t) (h' : GoodT t') : (List.range 8).all (eqRow t t') = decide (tblB t = tblB t') := by
  rw [Bool.eq_iff_iff, decide_eq_true_eq, tblB_iff h h', List.all_eq_true]
  constructor
  · intro hh
    apply List.ext_getElem?
    intro j
    by_cases hj : j < 8
    · exact (eqRow_iff h h' hj).1 (hh j (List.mem_range.2 hj))
    · rw [List.getElem?_eq_none (by rw [h.len]; omega), List.getElem?_eq_none (by rw [h'.len]; omega)]
  · rintro rfl j hj
    exact (eqRow_iff h h (List.mem_range.1 hj)).2 rfl
end Go.Proofs.Ytpkdcbfhacgklaa
/- interrexlaw15.TableApart: the walk. -/
namespace Go.Proofs.Ytpkdcbfhacgklaa
open Go.RowKit

def foldA (t : List T3) (L : List ActT) : List T3 := L.foldl (fun t a => (putA t a.cl a.num (a.e % 19) a.l).1) t
theorem foldA_snoc (t : List T3) {L : List ActT} {k : Nat} {a : ActT} (h : L[k]? = some a) : foldA t (L.take (k + 1)) = (putA (foldA t (L.take k)) a.cl a.num (a.e % 19) a.l).1 := by
  unfold foldA; rw [take_snoc' h, List.foldl_append]; rfl
theorem small_iff {a : ActT} (h : a.small = true) : a.n ≤ 10 ∧ ∀ s ∈ a.l, s.size ≤ 50 := by
  unfold ActT.small at h
  simp only [Bool.and_eq_true, decide_eq_true_eq, List.all_eq_true] at h
  exact h
theorem fewT_iff {L : List ActT} (h : fewT L = true) : (∀ a ∈ L, a.small = true) ∧ L.length ≤ 40 := by
  unfold fewT at h
  simp only [Bool.and_eq_true, decide_eq_true_eq, List.all_eq_true] at h
  exact h
theorem foldA_good : ∀ (L : List ActT) (t : List T3), GoodT t → (∀ a ∈ L, a.small = true ∧ a.ok) → GoodT (foldA t L)
  | [], _, h, _ => h
  | a :: L, t, h, hL => by
    obtain ⟨hs, hk⟩ := hL a (by simp)
    obtain ⟨h1, h2⟩ := small_iff hs
    unfold foldA
    rw [List.foldl_cons]
    exact foldA_good L _ (putA_good h (Nat.mod_lt _ (by decide)) (by rw [hk.len]; exact h1) h2) (fun b hb => hL b (by simp [hb]))
/-- One act's Put, as a contract for all its places. -/
theorem act_put {w W : World} {A : Option Addr} {L : List ActT} {U : Nat → Prop} {p : Nat} {t : List T3} {k : Nat} {a : ActT} (h : ActsAt w A L) (hok : ∀ a ∈ L, a.ok) (hsm : ∀ a ∈ L, a.small = true) (ha : L[k]? = some a) (hp : w.heap.size ≤ p) (F : Fr noB w W) (hU : ∀ k, W.heap.size ≤ k → U k) (hT : TblA W U p t) :
    Calls Try.prog 17 #[.pointer (some ⟨p, 0, none⟩), .int .u8 a.cl, .int .u64 a.num, .agg #[.int .i64 (a.e % 19 : Nat), .slice a.A a.n a.c]] W
      (fun ed w' => ed = .returned (.int .i64 ((putA t a.cl a.num (a.e % 19) a.l).2 : Nat)) ∧ TblA w' U p (putA t a.cl a.num (a.e % 19) a.l).1 ∧ Fr (eqB p) W w') := by
  have hm := List.mem_of_getElem? ha
  obtain ⟨h1, h2⟩ := small_iff (hsm a hm)
  have hk := hok a hm
  have hs := sumSz_few a.l 50 h2
  rw [hk.len] at hs
  exact putT_calls W U p t a.cl a.num (a.e % 19) a.A a.n a.c a.l hT hU ((h.sub a hm).fr0 F) hk.len hk.nil (by omega) (by omega) (by omega) hk.num (fun ad e h0 hp' => by
    have hr := h.sub a hm
    rw [e] at hr
    have := hr.lt (by simp only [strs, List.length_map]; rw [hk.len]; exact h0)
    omega)
set_option maxRecDepth 100000 in
set_option maxHeartbeats 3200000 in
theorem apart_walk (w : World) (A B : Option Addr) (c d n m : Nat) (L M : List ActT) (hL : ActsAt w A L) (hM : ActsAt w B M) (HN : Hid (L.length = n)) (HM : Hid (M.length = m)) (hn : n ≤ 9223372036854775807) (hm : m ≤ 9223372036854775807) (HO : Hid (∀ a ∈ L, a.ok)) (HO' : Hid (∀ a ∈ M, a.ok)) :
    Calls Try.prog 4 #[.slice A n c, .slice B m d] w (BoolPost w true) := by
  have hf1 := fun W hx => few15_calls W A c n L hx HN hn HO.out
  have hf2 := fun W hx => few15_calls W B d m M hx HM hm HO'.out
  by_cases hfew : fewT L = true ∧ fewT M = true
  · obtain ⟨e1, e2⟩ := hfew
    have HS : Hid (∀ a ∈ L, a.small = true) := (fewT_iff e1).1
    have HS' : Hid (∀ a ∈ M, a.small = true) := (fewT_iff e2).1
    have hn40 : n ≤ 40 := by have := (fewT_iff e1).2; rw [HN.out] at this; exact this
    have hm40 : m ≤ 40 := by have := (fewT_iff e2).2; rw [HM.out] at this; exact this
    rw [e1] at hf1
    rw [e2] at hf2
    clear e1 e2
    go_enter Try.func4, Try.ntmps4
    go_wp2_with fail
    refine (lives15_calls w).mono ?_
    rintro e w1 ⟨rfl, f1⟩
    go_wp2_with fail
    refine (hf1 w1 (hL.fr0 f1)).mono ?_
    rintro e w2 ⟨rfl, f2⟩
    go_wp2_with fail
    refine (hf2 w2 (hM.fr0 (f1.then' f2))).mono ?_
    rintro e w3 ⟨rfl, f3⟩
    have F3 := (f1.then' f2).then' f3
    clear f1 f2 f3 hf1 hf2
    go_wp2_with fail
    refine (newTA_calls w3).mono ?_
    rintro e w4 ⟨rfl, ht4, f4⟩
    go_wp2_with fail
    refine (newTA_calls w4).mono ?_
    rintro e w5 ⟨rfl, hu5, f5⟩
    have hp1 : w.heap.size ≤ w3.heap.size := F3.size
    have hlt4 := ht4.lt
    have hlt5 := hu5.lt
    have F5 := (F3.then' f4).then' f5
    have ht5 : TblA w5 (fun k => w3.heap.size ≤ k ∧ k ≠ w4.heap.size) w3.heap.size zeroT := (ht4.mono (V := fun k => w3.heap.size ≤ k ∧ k ≠ w4.heap.size) (fun k hk h => ⟨h, by omega⟩)).fr0 f5
    clear ht4 f4 f5 F3
    generalize w3.heap.size = p1 at *
    generalize w4.heap.size = p2 at *
    have hp2 : w.heap.size ≤ p2 := by omega
    go_wp2_with fail
    go_loopw [30] (fun i wr => ∃ k : Nat, k ≤ n ∧ i = .int .i64 k ∧ TblA wr (fun k => p1 ≤ k ∧ k ≠ p2) p1 (foldA zeroT (L.take k)) ∧ TblA wr (upB p2) p2 zeroT ∧ Fr noB w wr) (fun i _ => n - (intOf i).toNat)
    case atStart => exact ⟨0, Nat.zero_le _, rfl, by simpa [foldA] using ht5, hu5, F5⟩
    case round =>
      obtain ⟨k, hk, rfl, ht, hu, hf⟩ := hrel
      by_cases hkn : k < n
      · obtain ⟨u, hit⟩ : ∃ u, L[k]? = some u := ⟨_, List.getElem?_eq_getElem (by rw [HN.out]; exact hkn)⟩
        obtain ⟨ad, rfl⟩ := (hL).row.some_flat (by simp [ActT.C]) hit
        obtain ⟨c0, c1, c2, c3, c4⟩ := (((hL).row.seg 5 (fun _ => rfl) hit).fr hf id).c5
        have HT := hid (foldA_snoc zeroT hit)
        have hput := fun W U t => act_put (W := W) (U := U) (p := p1) (t := t) (hL) HO.out HS.out hit hp1
        have hrep := fun W => reply15_calls W u
        generalize foldA zeroT (L.take k) = t at *
        have hb : BlkAt (wr.alloc (.cells #[.int .u8 u.k, .int .u8 u.cl, .int .u64 u.num, .int .u8 u.e, .slice u.A u.n u.c] 31)) wr.heap.size 31 #[.int .u8 u.k, .int .u8 u.cl, .int .u64 u.num, .int .u8 u.e, .slice u.A u.n u.c] := BlkAt.new _ _ _
        have F5 := hf.alloc (.cells #[.int .u8 u.k, .int .u8 u.cl, .int .u64 u.num, .int .u8 u.e, .slice u.A u.n u.c] 31)
        have ht5 := ht.fr0 ((Fr.refl noB wr).alloc (.cells #[.int .u8 u.k, .int .u8 u.cl, .int .u64 u.num, .int .u8 u.e, .slice u.A u.n u.c] 31))
        have hu5' := hu.fr0 ((Fr.refl noB wr).alloc (.cells #[.int .u8 u.k, .int .u8 u.cl, .int .u64 u.num, .int .u8 u.e, .slice u.A u.n u.c] 31))
        have hlt2 := hu.lt
        have hs5 := al_size wr (.cells #[.int .u8 u.k, .int .u8 u.cl, .int .u64 u.num, .int .u8 u.e, .slice u.A u.n u.c] 31)
        have hs := hf.size
        obtain ⟨p5, hp5⟩ : ∃ p5, wr.heap.size = p5 := ⟨_, rfl⟩
        rw [hp5] at hb hs5 hs
        have HIT := hid hit
        have hlt := ht.lt
        clear ht hf hit hu
        go_upto_region 7 with fail
        generalize (wr.alloc (.cells #[.int .u8 u.k, .int .u8 u.cl, .int .u64 u.num, .int .u8 u.e, .slice u.A u.n u.c] 31)) = wa at *
        clear c0 c1 c2 c3 c4
        apply wp_region_calm (R := Fr (eqB p1)) (C := fun q W => Fr (eqB p1) wa W ∧ BlkAt W p5 31 #[.int .u8 u.k, .int .u8 u.cl, .int .u64 u.num, .int .u8 u.e, .slice u.A u.n u.c] ∧ PutTC (fun k => p1 ≤ k ∧ k ≠ p2) p1 t (putA t u.cl u.num (u.e % 19) u.l).1 q W) [false, false, false, false, false, false, false, true]
          [eqv _, eqv _, eqv _, eqv _, eqv _, eqv _, eqv _, anyv]
          (by kernel_rfl) (by kernel_rfl) (fun _ _ _ h1 h2 => h1.then' h2) ((Fr.refl _ _).drew) ⟨(Fr.refl _ _).drew, hb, ht5.fr0 ((Fr.refl noB _).drew)⟩ (by kernel_rfl)
        · refine ⟨?_, ?_, ?_, ?_, ?_, ?_, ?_, ?_, trivial⟩
          · rw [if_neg (by decide)]; intro kq
            exact calm_mv 5 rfl rfl (Or.inl rfl) (Fr.refl _) (by decide) fun v w hd => hd
          · rw [if_neg (by decide)]; intro kq
            intro a W K hC hd hK
            have d8 : a.tmps[8]?.getD undef = .pointer (some ⟨p5, 0, none⟩) := hd 8 (by decide)
            refine wpOp_plain rfl rfl ?_
            obtain ⟨x0, x1, x2, x3, x4, xf⟩ := BlkAt.c5 hC.2.1
            go_wp2_with fail
            exact hK _ _ (Fr.refl _ _) hC rfl
          · rw [if_neg (by decide)]; intro kq
            intro a W K hC hd hK
            have d35 : _ = _ := hd 35 (by decide)
            refine wpOp_plain rfl rfl ?_
            obtain ⟨x0, x1, x2, x3, x4, xf⟩ := BlkAt.c5 hC.2.1
            go_wp2_with fail
            exact hK _ _ (Fr.refl _ _) hC rfl
          · rw [if_neg (by decide)]; intro kq
            intro a W K hC hd hK
            have d8 : a.tmps[8]?.getD undef = .pointer (some ⟨p5, 0, none⟩) := hd 8 (by decide)
            refine wpOp_plain rfl rfl ?_
            obtain ⟨x0, x1, x2, x3, x4, xf⟩ := BlkAt.c5 hC.2.1
            go_wp2_with fail
            exact hK _ _ (Fr.refl _ _) hC rfl
          · rw [if_neg (by decide)]; intro kq
            intro a W K hC hd hK
            have d37 : _ = _ := hd 37 (by decide)
            refine wpOp_plain rfl rfl ?_
            obtain ⟨x0, x1, x2, x3, x4, xf⟩ := BlkAt.c5 hC.2.1
            go_wp2_with fail
            exact hK _ _ (Fr.refl _ _) hC rfl
          · rw [if_neg (by decide)]; intro kq
            intro a W K hC hd hK
            have d8 : a.tmps[8]?.getD undef = .pointer (some ⟨p5, 0, none⟩) := hd 8 (by decide)
            refine wpOp_plain rfl rfl ?_
            obtain ⟨x0, x1, x2, x3, x4, xf⟩ := BlkAt.c5 hC.2.1
            go_wp2_with fail
            exact hK _ _ (Fr.refl _ _) hC rfl
          · rw [if_neg (by decide)]; intro kq
            intro a W K hC hd hK
            have d39 : _ = _ := hd 39 (by decide)
            refine wpOp_plain rfl rfl ?_
            obtain ⟨x0, x1, x2, x3, x4, xf⟩ := BlkAt.c5 hC.2.1
            go_wp2_with fail
            refine (hrep W).mono ?_
            rintro e9 w9 ⟨rfl, f9⟩
            exact hK _ _ (f9.mono fun _ _ h => h.elim) ⟨hC.1.then' (f9.mono fun _ _ h => h.elim), hC.2.1.fr f9 id, hC.2.2.fr0 f9⟩ rfl
          · rw [if_pos (by decide)]
            intro a W K hC hd hK
            replace hC : (fun q W => Fr (eqB p1) wa W ∧ BlkAt W p5 31 #[.int .u8 u.k, .int .u8 u.cl, .int .u64 u.num, .int .u8 u.e, .slice u.A u.n u.c] ∧ PutTC (fun k => p1 ≤ k ∧ k ≠ p2) p1 t (putA t u.cl u.num (u.e % 19) u.l).1 q W) 0 W := hC
            have d34 : _ = _ := hd 34 (by decide)
            have d36 : _ = _ := hd 36 (by decide)
            have d38 : _ = _ := hd 38 (by decide)
            have d40 : _ = _ := hd 40 (by decide)
            refine wpOp_plain rfl rfl ?_
            obtain ⟨x0, x1, x2, x3, x4, xf⟩ := BlkAt.c5 hC.2.1
            go_wp2_with fail
            refine (hput W (fun k => p1 ≤ k ∧ k ≠ p2) t (F5.trans hC.1 (fun i hi h => by unfold eqB at h; omega)) (fun j hj => by have := hC.1.size; exact ⟨by omega, by omega⟩) hC.2.2).mono ?_
            rintro e9 w9 ⟨rfl, h9, f9⟩
            exact hK _ _ f9 ⟨hC.1.then' f9, hC.2.1.fr f9 (by unfold eqB; omega), h9⟩ trivial
        · intro vs w8 fw8 cw8 hV
          have v34 : vs 0 = _ := hV 0 _ _ rfl rfl (by decide)
          have v35 : vs 1 = _ := hV 1 _ _ rfl rfl (by decide)
          have v36 : vs 2 = _ := hV 2 _ _ rfl rfl (by decide)
          have v37 : vs 3 = _ := hV 3 _ _ rfl rfl (by decide)
          have v38 : vs 4 = _ := hV 4 _ _ rfl rfl (by decide)
          have v39 : vs 5 = _ := hV 5 _ _ rfl rfl (by decide)
          have v40 : vs 6 = _ := hV 6 _ _ rfl rfl (by decide)
          have v41 : (anyv).V (vs 7) w8 := hV 7 _ _ rfl rfl (by decide)
          clear hV
          simp only [putL, Act.put, Nat.reduceAdd, List.setIfInBounds_toArray, List.set_cons_zero, List.set_cons_succ, v34, v35, v36, v37, v38, v39, v40]
          have hT8 : TblA w8 (fun k => p1 ≤ k ∧ k ≠ p2) p1 (putA t u.cl u.num (u.e % 19) u.l).1 := cw8.2.2
          have hu8 : TblA w8 (upB p2) p2 zeroT := hu5'.fr fw8 (fun j _ h h2 => by unfold upB at h; unfold eqB at h2; omega)
          have F8 := F5.trans fw8 (fun i hi h => by unfold eqB at h; omega)
          clear cw8 hput hrep
          go_wp2_with fail
          go_roundw
          case rel => exact ⟨k + 1, by omega, by go_num, by rw [HT.out]; exact hT8, hu8, F8⟩
          case measure => simp [intOf]; omega
      · have : k = n := by omega
        subst this
        rw [List.take_of_length_le (by rw [HN.out]; exact Nat.le_refl _)] at ht
        have F5 := hf
        have ht5 := ht
        have hu5 := hu
        generalize hTL : foldA zeroT L = tl at *
        have HTL := hid hTL
        clear hTL hf ht hu
        go_wp2_with fail
        go_loopw [45] (fun i wr => ∃ k : Nat, k ≤ m ∧ i = .int .i64 k ∧ TblA wr (upB p2) p2 (foldA zeroT (M.take k)) ∧ TblA wr (fun k => p1 ≤ k ∧ k ≠ p2) p1 tl ∧ Fr noB w wr) (fun i _ => m - (intOf i).toNat)
        case atStart => exact ⟨0, Nat.zero_le _, rfl, by simpa [foldA] using hu5, ht5, F5⟩
        case round =>
          obtain ⟨k, hk, rfl, ht, hu, hf⟩ := hrel
          by_cases hkn : k < m
          · obtain ⟨u, hit⟩ : ∃ u, M[k]? = some u := ⟨_, List.getElem?_eq_getElem (by rw [HM.out]; exact hkn)⟩
            obtain ⟨ad, rfl⟩ := (hM).row.some_flat (by simp [ActT.C]) hit
            obtain ⟨c0, c1, c2, c3, c4⟩ := (((hM).row.seg 5 (fun _ => rfl) hit).fr hf id).c5
            have HT := hid (foldA_snoc zeroT hit)
            have hput := fun W U t => act_put (W := W) (U := U) (p := p2) (t := t) (hM) HO'.out HS'.out hit hp2
            have hrep := fun W => reply15_calls W u
            generalize foldA zeroT (M.take k) = t at *
            have hb : BlkAt (wr.alloc (.cells #[.int .u8 u.k, .int .u8 u.cl, .int .u64 u.num, .int .u8 u.e, .slice u.A u.n u.c] 31)) wr.heap.size 31 #[.int .u8 u.k, .int .u8 u.cl, .int .u64 u.num, .int .u8 u.e, .slice u.A u.n u.c] := BlkAt.new _ _ _
            have F5 := hf.alloc (.cells #[.int .u8 u.k, .int .u8 u.cl, .int .u64 u.num, .int .u8 u.e, .slice u.A u.n u.c] 31)
            have ht5 := ht.fr0 ((Fr.refl noB wr).alloc (.cells #[.int .u8 u.k, .int .u8 u.cl, .int .u64 u.num, .int .u8 u.e, .slice u.A u.n u.c] 31))
            have hu5' := hu.fr0 ((Fr.refl noB wr).alloc (.cells #[.int .u8 u.k, .int .u8 u.cl, .int .u64 u.num, .int .u8 u.e, .slice u.A u.n u.c] 31))
            have hlt2 := hu.lt
            have hs5 := al_size wr (.cells #[.int .u8 u.k, .int .u8 u.cl, .int .u64 u.num, .int .u8 u.e, .slice u.A u.n u.c] 31)
            have hs := hf.size
            obtain ⟨p5, hp5⟩ : ∃ p5, wr.heap.size = p5 := ⟨_, rfl⟩
            rw [hp5] at hb hs5 hs
            have HIT := hid hit
            have hlt := ht.lt
            clear ht hf hit hu
            go_upto_region 12 with fail
            generalize (wr.alloc (.cells #[.int .u8 u.k, .int .u8 u.cl, .int .u64 u.num, .int .u8 u.e, .slice u.A u.n u.c] 31)) = wa at *
            clear c0 c1 c2 c3 c4
            apply wp_region_calm (R := Fr (eqB p2)) (C := fun q W => Fr (eqB p2) wa W ∧ BlkAt W p5 31 #[.int .u8 u.k, .int .u8 u.cl, .int .u64 u.num, .int .u8 u.e, .slice u.A u.n u.c] ∧ PutTC (upB p2) p2 t (putA t u.cl u.num (u.e % 19) u.l).1 q W) [false, false, false, false, false, false, false, true]
              [eqv _, eqv _, eqv _, eqv _, eqv _, eqv _, eqv _, anyv]
              (by kernel_rfl) (by kernel_rfl) (fun _ _ _ h1 h2 => h1.then' h2) ((Fr.refl _ _).drew) ⟨(Fr.refl _ _).drew, hb, ht5.fr0 ((Fr.refl noB _).drew)⟩ (by kernel_rfl)
            · refine ⟨?_, ?_, ?_, ?_, ?_, ?_, ?_, ?_, trivial⟩
              · rw [if_neg (by decide)]; intro kq
                exact calm_mv 6 rfl rfl (Or.inl rfl) (Fr.refl _) (by decide) fun v w hd => hd
              · rw [if_neg (by decide)]; intro kq
                intro a W K hC hd hK
                have d10 : a.tmps[10]?.getD undef = .pointer (some ⟨p5, 0, none⟩) := hd 10 (by decide)
                refine wpOp_plain rfl rfl ?_
                obtain ⟨x0, x1, x2, x3, x4, xf⟩ := BlkAt.c5 hC.2.1
                go_wp2_with fail
                exact hK _ _ (Fr.refl _ _) hC rfl
              · rw [if_neg (by decide)]; intro kq
                intro a W K hC hd hK
                have d50 : _ = _ := hd 50 (by decide)
                refine wpOp_plain rfl rfl ?_
                obtain ⟨x0, x1, x2, x3, x4, xf⟩ := BlkAt.c5 hC.2.1
                go_wp2_with fail
                exact hK _ _ (Fr.refl _ _) hC rfl
              · rw [if_neg (by decide)]; intro kq
                intro a W K hC hd hK
                have d10 : a.tmps[10]?.getD undef = .pointer (some ⟨p5, 0, none⟩) := hd 10 (by decide)
                refine wpOp_plain rfl rfl ?_
                obtain ⟨x0, x1, x2, x3, x4, xf⟩ := BlkAt.c5 hC.2.1
                go_wp2_with fail
                exact hK _ _ (Fr.refl _ _) hC rfl
              · rw [if_neg (by decide)]; intro kq
                intro a W K hC hd hK
                have d52 : _ = _ := hd 52 (by decide)
                refine wpOp_plain rfl rfl ?_
                obtain ⟨x0, x1, x2, x3, x4, xf⟩ := BlkAt.c5 hC.2.1
                go_wp2_with fail
                exact hK _ _ (Fr.refl _ _) hC rfl
              · rw [if_neg (by decide)]; intro kq
                intro a W K hC hd hK
                have d10 : a.tmps[10]?.getD undef = .pointer (some ⟨p5, 0, none⟩) := hd 10 (by decide)
                refine wpOp_plain rfl rfl ?_
                obtain ⟨x0, x1, x2, x3, x4, xf⟩ := BlkAt.c5 hC.2.1
                go_wp2_with fail
                exact hK _ _ (Fr.refl _ _) hC rfl
              · rw [if_neg (by decide)]; intro kq
                intro a W K hC hd hK
                have d54 : _ = _ := hd 54 (by decide)
                refine wpOp_plain rfl rfl ?_
                obtain ⟨x0, x1, x2, x3, x4, xf⟩ := BlkAt.c5 hC.2.1
                go_wp2_with fail
                refine (hrep W).mono ?_
                rintro e9 w9 ⟨rfl, f9⟩
                exact hK _ _ (f9.mono fun _ _ h => h.elim) ⟨hC.1.then' (f9.mono fun _ _ h => h.elim), hC.2.1.fr f9 id, hC.2.2.fr0 f9⟩ rfl
              · rw [if_pos (by decide)]
                intro a W K hC hd hK
                replace hC : (fun q W => Fr (eqB p2) wa W ∧ BlkAt W p5 31 #[.int .u8 u.k, .int .u8 u.cl, .int .u64 u.num, .int .u8 u.e, .slice u.A u.n u.c] ∧ PutTC (upB p2) p2 t (putA t u.cl u.num (u.e % 19) u.l).1 q W) 0 W := hC
                have d49 : _ = _ := hd 49 (by decide)
                have d51 : _ = _ := hd 51 (by decide)
                have d53 : _ = _ := hd 53 (by decide)
                have d55 : _ = _ := hd 55 (by decide)
                refine wpOp_plain rfl rfl ?_
                obtain ⟨x0, x1, x2, x3, x4, xf⟩ := BlkAt.c5 hC.2.1
                go_wp2_with fail
                refine (hput W (upB p2) t (F5.trans hC.1 (fun i hi h => by unfold eqB at h; omega)) (fun j hj => by have := hC.1.size; unfold upB; omega) hC.2.2).mono ?_
                rintro e9 w9 ⟨rfl, h9, f9⟩
                exact hK _ _ f9 ⟨hC.1.then' f9, hC.2.1.fr f9 (by unfold eqB; omega), h9⟩ trivial
            · intro vs w8 fw8 cw8 hV
              have v49 : vs 0 = _ := hV 0 _ _ rfl rfl (by decide)
              have v50 : vs 1 = _ := hV 1 _ _ rfl rfl (by decide)
              have v51 : vs 2 = _ := hV 2 _ _ rfl rfl (by decide)
              have v52 : vs 3 = _ := hV 3 _ _ rfl rfl (by decide)
              have v53 : vs 4 = _ := hV 4 _ _ rfl rfl (by decide)
              have v54 : vs 5 = _ := hV 5 _ _ rfl rfl (by decide)
              have v55 : vs 6 = _ := hV 6 _ _ rfl rfl (by decide)
              have v56 : (anyv).V (vs 7) w8 := hV 7 _ _ rfl rfl (by decide)
              clear hV
              simp only [putL, Act.put, Nat.reduceAdd, List.setIfInBounds_toArray, List.set_cons_zero, List.set_cons_succ, v49, v50, v51, v52, v53, v54, v55]
              have hT8 : TblA w8 (upB p2) p2 (putA t u.cl u.num (u.e % 19) u.l).1 := cw8.2.2
              have hu8 : TblA w8 (fun k => p1 ≤ k ∧ k ≠ p2) p1 tl := hu5'.fr fw8 (fun j _ h h2 => h.2 h2)
              have F8 := F5.trans fw8 (fun i hi h => by unfold eqB at h; omega)
              clear cw8 hput hrep
              go_wp2_with fail
              go_roundw
              case rel => exact ⟨k + 1, by omega, by go_num, by rw [HT.out]; exact hT8, hu8, F8⟩
              case measure => simp [intOf]; omega
          · have : k = m := by omega
            subst this
            rw [List.take_of_length_le (by rw [HM.out]; exact Nat.le_refl _)] at ht
            generalize hTM : foldA zeroT M = tm at *
            have HTM := hid hTM
            have hg1 : GoodT tl := HTL.out ▸ foldA_good L zeroT zeroT_good (fun a ha => ⟨HS.out a ha, HO.out a ha⟩)
            have hg2 : GoodT tm := hTM ▸ foldA_good M zeroT zeroT_good (fun a ha => ⟨HS'.out a ha, HO'.out a ha⟩)
            have HEQ := hid (eqRows_iff hg1 hg2)
            clear hTM hg1 hg2
            go_wp2_with fail
            go_loopw [11, 58] (fun s i wx => ∃ j : Nat, j ≤ 8 ∧ i = .int .u8 j ∧ s = .bool ((List.range j).all (eqRow tl tm)) ∧ Fr noB wr wx) (fun _ i _ => 8 - (intOf i).toNat)
            case atStart => exact ⟨0, by omega, rfl, rfl, Fr.refl _ _⟩
            case round =>
              obtain ⟨j, hj, rfl, rfl, hfx⟩ := hrel
              by_cases hj8 : j < 8
              · have HR : Hid ((List.range (j + 1)).all (eqRow tl tm) = ((List.range j).all (eqRow tl tm) && eqRow tl tm j)) := by unfold Hid; rw [List.range_succ, List.all_append]; simp
                have hqe : eqRow tl tm j = (decide (lastA tl j = lastA tm j) && (decide ((repA tl j).1 = (repA tm j).1) && (decide ((repA tl j).1 ≠ 0) || decide ((repA tl j).2 = (repA tm j).2)))) := rfl
                have h1 := hu.fr0 hfx
                have h2 := ht.fr0 hfx
                have hl1 := fun W h => lastA_calls W (fun k => p1 ≤ k ∧ k ≠ p2) p1 tl j h
                have hl2 := fun W h => lastA_calls W (upB p2) p2 tm j h
                have hr1 := fun W h => replyT_calls W (fun k => p1 ≤ k ∧ k ≠ p2) p1 tl j h
                have hr2 := fun W h => replyT_calls W (upB p2) p2 tm j h
                generalize (List.range j).all (eqRow tl tm) = b at *
                generalize lastA tl j = x at *
                generalize lastA tm j = y at *
                generalize repA tl j = q1 at *
                obtain ⟨e1, l1⟩ := q1
                generalize repA tm j = q2 at *
                obtain ⟨e2, l2⟩ := q2
                simp only [] at hqe hr1 hr2
                rw [hqe] at HR
                clear hqe hu ht HEQ
                have hjw : IntKind.u8.wrap ((j : Int) + 1) = (j + 1 : Nat) := by rw [IntKind.wrap_u8]; omega
                cases b with
                | false =>
                  clear hl1 hl2 hr1 hr2 h1 h2
                  go_wp2_with fail
                  go_roundw
                  case rel => exact ⟨j + 1, by omega, by go_num, by rw [HR.out]; rfl, hfx⟩
                  case measure => simp [intOf]; omega
                | true =>
                  by_cases hxy : x = y
                  · have t1 : ((x : Int) == (y : Int)) = true := by rw [beq_iff_eq]; omega
                    have t2 : (x == y) = true := by rw [beq_iff_eq]; exact hxy
                    have t3 : decide (x = y) = true := decide_eq_true hxy
                    have HXY := hid hxy
                    clear hxy
                    go_wp2_with fail
                    refine (hl1 _ h1).mono ?_
                    rintro e w9 ⟨rfl, rfl⟩
                    go_wp2_with fail
                    refine (hl2 _ h2).mono ?_
                    rintro e w9 ⟨rfl, rfl⟩
                    go_wp2_with fail
                    refine (hr1 _ h1).mono ?_
                    rintro e w9 ⟨A1, n1, c1, rfl, hn1, f9⟩
                    go_wp2_with fail
                    refine (hr2 _ (h2.fr0 f9)).mono ?_
                    rintro e w10 ⟨A2, n2, c2, rfl, hn2, f10⟩
                    have hw1 := hn1.2.2.2.1.fr0 f10
                    have hw2 := hn2.2.2.2.1
                    have HN1 : Hid (l1.length = n1) := hn1.1
                    have HN2 : Hid (l2.length = n2) := hn2.1
                    have hc1 := hn1.2.1
                    have hm1 := hn1.2.2.1
                    have Fx := (hfx.then' f9).then' f10
                    clear hn1 hn2 f9 f10 h1 h2 hl1 hl2 hr1 hr2
                    go_wp2_with fail
                    refine (sameRep_calls w10 e1 e2 A1 A2 c1 c2 n1 n2 l1 l2 hw1 hw2 HN1 HN2 (by omega)).mono ?_
                    rintro e w11 ⟨rfl, f11⟩
                    generalize (decide (e1 = e2) && (decide (e1 ≠ 0) || decide (l1 = l2))) = v at *
                    go_wp2_with fail
                    go_roundw
                    case rel => exact ⟨j + 1, by omega, by go_num, by rw [HR.out, t3]; rfl, Fx.then' f11⟩
                    case measure => simp [intOf]; omega
                  · have t1 : ((x : Int) == (y : Int)) = false := by rw [beq_eq_false_iff_ne]; omega
                    have t2 : (x == y) = false := by rw [beq_eq_false_iff_ne]; exact hxy
                    have t3 : decide (x = y) = false := decide_eq_false hxy
                    have HXY := hid hxy
                    clear hxy
                    go_wp2_with fail
                    refine (hl1 _ h1).mono ?_
                    rintro e w9 ⟨rfl, rfl⟩
                    go_wp2_with fail
                    refine (hl2 _ h2).mono ?_
                    rintro e w9 ⟨rfl, rfl⟩
                    go_wp2_with fail
                    go_roundw
                    case rel => exact ⟨j + 1, by omega, by go_num, by rw [HR.out, t3]; rfl, hfx⟩
                    case measure => simp [intOf]; omega
              · have : j = 8 := by omega
                subst this
                rw [HEQ.out]
                have hb1 := fun W h => bytesT_calls W (fun k => p1 ≤ k ∧ k ≠ p2) p1 tl h
                have hb2 := fun W h => bytesT_calls W (upB p2) p2 tm h
                have h1 := hu.fr0 hfx
                have h2 := ht.fr0 hfx
                have hst := str_eq (mkS (tblB tl)) (mkS (tblB tm))
                have hse : decide (mkS (tblB tl) = mkS (tblB tm)) = decide (tblB tl = tblB tm) := decide_eq_decide.2 mkS_inj
                rw [hse] at hst
                generalize decide (tblB tl = tblB tm) = v at *
                generalize tblB tl = x at *
                generalize tblB tm = y at *
                clear hse HEQ
                go_wp2_with fail
                refine (hb1 _ h1).mono ?_
                rintro e w9 ⟨rfl, f9⟩
                go_wp2_with fail
                refine (hb2 _ (h2.fr0 f9)).mono ?_
                rintro e w10 ⟨rfl, f10⟩
                go_wp2_with fail
                go_ret
                exact BoolPost.mk' (by simp) (((hf.then' hfx).then' f9).then' f10)
  · have hlv := lives15_calls
    go_enter Try.func4, Try.ntmps4
    go_wp2_with fail
    refine (hlv w).mono ?_
    rintro e w1 ⟨rfl, f1⟩
    go_wp2_with fail
    refine (hf1 w1 (hL.fr0 f1)).mono ?_
    rintro e w2 ⟨rfl, f2⟩
    have F2 := f1.then' f2
    cases e1 : fewT L
    · go_wp2_with fail
      refine (hlv w2).mono ?_
      rintro e w3 ⟨rfl, f3⟩
      go_wp2_with fail
      go_ret
      exact BoolPost.mk' rfl (F2.then' f3)
    · have e2 : fewT M = false := by
        cases h : fewT M
        · rfl
        · exact absurd ⟨e1, h⟩ hfew
      rw [e2] at hf2
      clear hfew e1 e2
      go_wp2_with fail
      refine (hf2 w2 (hM.fr0 F2)).mono ?_
      rintro e w3 ⟨rfl, f3⟩
      go_wp2_with fail
      refine (hlv w3).mono ?_
      rintro e w4 ⟨rfl, f4⟩
      go_wp2_with fail
      go_ret
      exact BoolPost.mk' rfl ((F2.then' f3).then' f4)
end Go.Proofs.Ytpkdcbfhacgklaa
/- A slice of acts (interrexlaw15) among the arguments. -/
namespace Go.Proofs.Ytpkdcbfhacgklaa
open Go.RowKit Go.ChangeShapes Go.WideShapes
instance : Inhabited ActT := ⟨⟨0, 0, 0, 0, none, 0, 0, []⟩⟩
theorem u8_nat {n : Int} (h : (Lit.int .u8 n).wf = true) : 0 ≤ n ∧ n < 256 := by
  simp [Lit.wf, IntKind.min, IntKind.max, IntKind.bits, IntKind.signed] at h; omega
theorem u64_nat {n : Int} (h : (Lit.int .u64 n).wf = true) : 0 ≤ n ∧ n ≤ 18446744073709551615 := by
  simp [Lit.wf, IntKind.min, IntKind.max, IntKind.bits, IntKind.signed] at h; omega
theorem list_5 {α : Type} : ∀ {l : List α}, l.length = 5 → ∃ x0 x1 x2 x3 x4, l = [x0, x1, x2, x3, x4]
  | [x0, x1, x2, x3, x4], _ => ⟨x0, x1, x2, x3, x4, rfl⟩
section
variable {H : Type} {enc : TypeId × Value → H} {w : World}
set_option maxRecDepth 100000 in
theorem open_actT (n : Nat) (cs : List Value) (y : DataW H × List MemPlace) (h : DataW.trod enc Try.prog w 0 (fun _ => true) true n 31 cs = some y) :
    ∃ a : ActT, cs = a.C ∧ (a.ok ∧ RowAt w a.A (strs a.l)) := by
  obtain ⟨xs, m, _, rfl, hl, hlen, hf⟩ := DataW.trod_struct Try.underlying31 h
  have ct : Try.prog.cellsOf 31 = 5 := by kernel_rfl
  have k0 : Try.prog.cellsOf 5 = 1 := by kernel_rfl
  have k1 : Try.prog.cellsOf 28 = 1 := by kernel_rfl
  have k2 : Try.prog.cellsOf 29 = 1 := by kernel_rfl
  rw [ct] at hl
  obtain ⟨v0, v1, v2, v3, v4, rfl⟩ := list_5 hl
  obtain ⟨x0, x1, x2, x3, x4, rfl⟩ := list_5 (show xs.length = 5 from hlen)
  have g0 : DataW.trod enc Try.prog w 0 (fun _ => true) true m 5 (([v0, v1, v2, v3, v4].drop 0).take (Try.prog.cellsOf 5)) = some x0 := by
    have := hf 0 _ rfl
    exact this
  rw [k0] at g0
  have f0 : DataW.trod enc Try.prog w 0 (fun _ => true) true m 5 [v0] = some x0 := g0
  have g1 : DataW.trod enc Try.prog w 0 (fun _ => true) true m 5 (([v0, v1, v2, v3, v4].drop 1).take (Try.prog.cellsOf 5)) = some x1 := by
    have := hf 1 _ rfl
    exact this
  rw [k0] at g1
  have f1 : DataW.trod enc Try.prog w 0 (fun _ => true) true m 5 [v1] = some x1 := g1
  have g2 : DataW.trod enc Try.prog w 0 (fun _ => true) true m 28 (([v0, v1, v2, v3, v4].drop 2).take (Try.prog.cellsOf 28)) = some x2 := by
    have := hf 2 _ rfl
    exact this
  rw [k1] at g2
  have f2 : DataW.trod enc Try.prog w 0 (fun _ => true) true m 28 [v2] = some x2 := g2
  have g3 : DataW.trod enc Try.prog w 0 (fun _ => true) true m 5 (([v0, v1, v2, v3, v4].drop 3).take (Try.prog.cellsOf 5)) = some x3 := by
    have := hf 3 _ rfl
    exact this
  rw [k0] at g3
  have f3 : DataW.trod enc Try.prog w 0 (fun _ => true) true m 5 [v3] = some x3 := g3
  have g4 : DataW.trod enc Try.prog w 0 (fun _ => true) true m 29 (([v0, v1, v2, v3, v4].drop 4).take (Try.prog.cellsOf 29)) = some x4 := by
    have := hf 4 _ rfl
    exact this
  rw [k2] at g4
  have f4 : DataW.trod enc Try.prog w 0 (fun _ => true) true m 29 [v4] = some x4 := g4
  obtain ⟨n0, e0, _, w0⟩ := DataW.trod_int Try.underlying5 f0
  simp only [List.cons.injEq, and_true] at e0
  subst e0
  obtain ⟨u0, hu0⟩ := u8_nat w0
  obtain ⟨m0, rfl⟩ := Int.eq_ofNat_of_zero_le u0
  obtain ⟨n1, e1, _, w1⟩ := DataW.trod_int Try.underlying5 f1
  simp only [List.cons.injEq, and_true] at e1
  subst e1
  obtain ⟨u1, hu1⟩ := u8_nat w1
  obtain ⟨m1, rfl⟩ := Int.eq_ofNat_of_zero_le u1
  obtain ⟨n2, e2, _, w2⟩ := DataW.trod_int Try.underlying28 f2
  simp only [List.cons.injEq, and_true] at e2
  subst e2
  obtain ⟨u2, hu2⟩ := u64_nat w2
  obtain ⟨m2, rfl⟩ := Int.eq_ofNat_of_zero_le u2
  obtain ⟨n3, e3, _, w3⟩ := DataW.trod_int Try.underlying5 f3
  simp only [List.cons.injEq, and_true] at e3
  subst e3
  obtain ⟨u3, hu3⟩ := u8_nat w3
  obtain ⟨m3, rfl⟩ := Int.eq_ofNat_of_zero_le u3
  obtain ⟨A4, len4, cap4, rfl⟩ : ∃ A len cap, v4 = .slice A len cap := by
    rcases DataW.trod_slice Try.underlying29 f4 with ⟨e, _⟩ | ⟨a, len, cap, _, _, _, _, e, _⟩
    · simp only [List.cons.injEq, and_true] at e; exact ⟨_, _, _, e⟩
    · simp only [List.cons.injEq, and_true] at e; exact ⟨_, _, _, e⟩
  obtain ⟨ss4, sr4, sl4, sc4, sm4, sz4, sn4⟩ := open_strs (P := Try.prog) (w := w) (enc := enc) (d := x4.1) (ps := x4.2) Try.underlying29 Try.underlying9 (by kernel_rfl) ⟨m, by simpa [Value.cells] using f4⟩
  exact ⟨⟨m0, m1, m2, m3, A4, len4, cap4, ss4⟩, rfl, ⟨by simp only []; omega, by simp only []; omega, by simp only []; omega, by simp only []; omega, sl4, sc4, Nat.le_trans sm4 (by decide), sn4⟩, sr4⟩

theorem open_actsT {A : Option Addr} {len cap : Nat} {d : DataW H} {ps : List MemPlace} (h : DataW.Trod enc Try.prog w 0 (fun _ => true) true 22 (.slice A len cap) d ps) :
    ∃ L : List ActT, ActsAt w A L ∧ L.length = len ∧ len ≤ cap ∧ cap ≤ maxLen ∧ (∀ a ∈ L, a.ok) ∧ (A = none → len = 0 ∧ cap = 0) := by
  obtain ⟨l, h1, h2, h3, h4, h5, h6⟩ := open_rows ActT.C (fun a => a.ok ∧ RowAt w a.A (strs a.l)) Try.underlying22 open_actT h
  exact ⟨l, ⟨h1, fun a ha => (h5 a ha).2⟩, h2, h3, h4, fun a ha => (h5 a ha).1, h6⟩
end
theorem apart_law (w : World) (A : Option Addr) (n c : Nat) (L : List ActT) (o : ActsAt w A L ∧ L.length = n ∧ n ≤ c ∧ c ≤ maxLen ∧ (∀ a ∈ L, a.ok) ∧ (A = none → n = 0 ∧ c = 0)) (B : Option Addr) (m d : Nat) (M : List ActT) (o' : ActsAt w B M ∧ M.length = m ∧ m ≤ d ∧ d ≤ maxLen ∧ (∀ a ∈ M, a.ok) ∧ (B = none → m = 0 ∧ d = 0)) :
    Calls Try.prog 4 #[.slice A n c, .slice B m d] w (BoolPost w true) :=
  apart_walk w A B c d n m L M o.1 o'.1 o.2.1 o'.2.1 (Nat.le_trans (Nat.le_trans o.2.2.1 o.2.2.2.1) (by decide)) (Nat.le_trans (Nat.le_trans o'.2.2.1 o'.2.2.2.1) (by decide)) o.2.2.2.2.1 o'.2.2.2.2.1
end Go.Proofs.Ytpkdcbfhacgklaa
/- A map[[2]uint64]int as a function of two numbers. -/
namespace Go.Proofs.Ytpkdcbfhacgklaa
open Go.RowKit Go.Maps Go.WideShapes

theorem Try.pairK : Go.WideMaps.ArrKey Try.prog 39 28 2 := ⟨Try.underlying39, by kernel_rfl, by kernel_rfl, by kernel_rfl⟩
theorem Try.keyP : Keyed Try.prog 39 := Keyed.of_law Try.pairK.law
theorem Try.zeroI (w : World) : (zeroValue 3).run Try.prog w = .ok (.int .i64 0) w := by kernel_rfl
theorem wf_u64 {n : Nat} (h : n < 18446744073709551616) : (Lit.int .u64 (n : Int)).wf = true := by
  simp [Lit.wf, IntKind.min, IntKind.max, IntKind.bits, IntKind.signed]; omega
theorem wf_i64 {n : Nat} (h : n < 9223372036854775808) : (Lit.int .i64 (n : Int)).wf = true := by
  simp [Lit.wf, IntKind.min, IntKind.max, IntKind.bits, IntKind.signed]; omega
def K2 (x y : Nat) : Lit := .string (keyBytes [.int .u64 (x : Int), .int .u64 (y : Int)])
theorem keyOf_K2 {x y : Nat} (hx : x < 18446744073709551616) (hy : y < 18446744073709551616) : keyOf Try.prog 39 (.agg #[.int .u64 (x : Int), .int .u64 (y : Int)]) = some (K2 x y) :=
  Go.WideMaps.keyOf_pair Try.pairK Try.underlying28 ⟨Try.prog.types.size - 1, by kernel_rfl⟩ (wf_u64 hx) (wf_u64 hy)
theorem K2_inj {x y x' y' : Nat} (hx : x < 18446744073709551616) (hy : y < 18446744073709551616) (hx' : x' < 18446744073709551616) (hy' : y' < 18446744073709551616) (h : K2 x y = K2 x' y') : x = x' ∧ y = y' := by
  have := Try.pairK.law.inj (keyOf_K2 hx hy) (by rw [h]; exact keyOf_K2 hx' hy')
  simp at this; omega
/-- Block b is a map of at most n entries that reads as f. -/
def MapT (w : World) (b n : Nat) (f : Nat → Nat → Nat) : Prop :=
  ∃ D : DataW Unit, w.ownsMap Try.prog 39 (plainElem Try.prog 3) b n D ∧ IsMap D ∧ ∀ x y, x < 18446744073709551616 → y < 18446744073709551616 → D.atKey (K2 x y) (.lit (.int .i64 0)) = .lit (.int .i64 ((f x y : Nat) : Int))
theorem MapT.new (w : World) : MapT (w.alloc (.map #[] 0)) w.heap.size 0 (fun _ _ => 0) :=
  ⟨.map [], World.ownsMap_made _ _ _ _, isMap_empty, fun _ _ _ _ => rfl⟩
theorem MapT.fr {S : Nat → Prop} {w w' : World} {b n : Nat} {f : Nat → Nat → Nat} (h : MapT w b n f) (hf : Fr S w w') (hb : ¬ S b) : MapT w' b n f := by
  obtain ⟨D, h1, h2, h3⟩ := h
  obtain ⟨es, clock, hh, F, hs, hD⟩ := h1
  exact ⟨D, ⟨es, clock, hf.heap hh hb, F, hs, hD⟩, h2, h3⟩
theorem MapT.lt {w : World} {b n : Nat} {f : Nat → Nat → Nat} (h : MapT w b n f) : b < w.heap.size := by
  obtain ⟨D, h1, _⟩ := h; exact h1.lt
theorem MapT.same {w w' : World} {b n : Nat} {f : Nat → Nat → Nat} (h : MapT w b n f) (hb : w'.heap[b]? = w.heap[b]?) : MapT w' b n f := by
  obtain ⟨D, h1, h2, h3⟩ := h
  obtain ⟨es, clock, hh, F, hs, hD⟩ := h1
  exact ⟨D, ⟨es, clock, hb.trans hh, F, hs, hD⟩, h2, h3⟩
set_option maxRecDepth 10000 in
theorem MapT.look {w : World} {b n : Nat} {f : Nat → Nat → Nat} (h : MapT w b n f) {x y : Nat} (hx : x < 18446744073709551616) (hy : y < 18446744073709551616) :
    (Instr.lookup 27 (.map (some b)) (.agg #[.int .u64 (x : Int), .int .u64 (y : Int)]) false).run Try.prog w = .ok (.int .i64 ((f x y : Nat) : Int)) w := by
  obtain ⟨D, h1, h2, h3⟩ := h
  have hl := h1.lookup_int Try.keyP Try.underlying27 Try.underlying3 (Try.zeroI w) (keyOf_K2 hx hy)
  obtain ⟨c, hr, hat, _⟩ := hl
  have e : DataW.lit (H := Unit) (.int .i64 ((f x y : Nat) : Int)) = .lit (.int .i64 c) := (h3 x y hx hy).symm.trans hat
  injection e with e; injection e with _ e
  subst e
  exact hr
theorem MapT.mono {w : World} {b n m : Nat} {f : Nat → Nat → Nat} (h : MapT w b n f) (hn : n ≤ m) : MapT w b m f := by
  obtain ⟨D, h1, h2, h3⟩ := h
  exact ⟨D, h1.mono hn, h2, h3⟩
def putF2 (f : Nat → Nat → Nat) (x y c : Nat) : Nat → Nat → Nat := fun a b => if a = x ∧ b = y then c else f a b
/-- In W an entry is open, under the stamp st. -/
def EntryAt (W : World) (b n : Nat) (f : Nat → Nat → Nat) (x y st : Nat) : Prop :=
  ∃ es1 c1, W.heap[b]? = some (.map es1 c1) ∧ MapT W b (n + 1) f ∧ ∀ (w2 : World) (c : Nat), c < 9223372036854775808 → w2.heap[b]? = some (.map es1 c1) →
    ∃ w3, (Instr.entryStore 27 (.map (some b)) (goInt st) (.int .i64 (c : Int))).run Try.prog w2 = .ok () w3 ∧ MapT w3 b (n + 1) (putF2 f x y c) ∧ Fr (eqB b) w2 w3
open Go.ChangeMaps (setBlock heap_setBlock_same heap_setBlock_other)
theorem fr_setBlock {w : World} {b : Nat} {es : Array MapEntry} {clock : Nat} (hb : w.heap[b]? = some (.map es clock)) (o : Obj) : Fr (eqB b) w (setBlock w b o) :=
  ⟨rfl, rfl, rfl, by simp [setBlock], fun _ _ hk => heap_setBlock_other hb o (fun e => hk e)⟩
set_option maxRecDepth 10000 in
theorem MapT.entry {W : World} {b n : Nat} {f : Nat → Nat → Nat} (h : MapT W b n f) (hn : n < maxLen) {x y : Nat} (hx : x < 18446744073709551616) (hy : y < 18446744073709551616) (h0 : f x y = 0) :
    ∃ (st : Nat) (v0 : Value) (W' : World), (Instr.mapEntry 27 (.map (some b)) (.agg #[.int .u64 (x : Int), .int .u64 (y : Int)])).run Try.prog W = .ok (.tuple #[v0, goInt st]) W' ∧ EntryAt W' b n f x y st ∧ Fr (eqB b) W W' := by
  obtain ⟨D, h1, h2, h3⟩ := h
  have h1' := h1
  obtain ⟨es, clock, hb, F, hs, hD⟩ := h1'
  have hkey := keyOf_K2 hx hy
  obtain ⟨v0, st, es1, c1, hrun, hv0, hst⟩ := Go.WideElems.entry_then_store Try.pairK.law Try.underlying27 (fun u => Try.zeroI u) hb F hkey
  have hval : ∀ c : Nat, c < 9223372036854775808 → plainElem (H := Unit) Try.prog 3 (.int .i64 (c : Int)) = some (.lit (.int .i64 (c : Int)), []) := fun c hc => plainElem_int Try.underlying3 (wf_i64 hc)
  have hstore : ∀ (w2 : World) (c : Nat), c < 9223372036854775808 → w2.heap[b]? = some (.map es1 c1) →
    ∃ w3, (Instr.entryStore 27 (.map (some b)) (goInt st) (.int .i64 (c : Int))).run Try.prog w2 = .ok () w3 ∧ MapT w3 b (n + 1) (putF2 f x y c) ∧ Fr (eqB b) w2 w3 := by
    intro w2 c hc hw2
    obtain ⟨es', clock', g1, g2⟩ := hst w2 (.int .i64 (c : Int)) hw2
    obtain ⟨W3, g3, g4, _⟩ := h1.update Try.keyP Try.underlying27 hn hkey (hval c hc)
    rw [g2] at g3
    have e : setBlock W b (.map es' clock') = W3 := by injection g3
    rw [← e] at g4
    have hm : MapT (setBlock W b (.map es' clock')) b (n + 1) (putF2 f x y c) := by
      refine ⟨_, g4, h2.put _ _, fun x' y' hx' hy' => ?_⟩
      unfold putF2
      by_cases e : x' = x ∧ y' = y
      · obtain ⟨rfl, rfl⟩ := e
        rw [atKey_put_same h2 (by trivial)]; simp
      · rw [atKey_put_other (fun he => e (K2_inj hx' hy' hx hy he)), h3 x' y' hx' hy']; simp [e]
    refine ⟨_, g1, hm.same ?_, fr_setBlock hw2 _⟩
    rw [heap_setBlock_same hw2, heap_setBlock_same hb]
  refine ⟨st, v0, _, hrun, ⟨es1, c1, heap_setBlock_same hb _, ?_, hstore⟩, fr_setBlock hb _⟩
  have hchk := Try.pairK.law.check W false hkey
  rcases Try.pairK.law.find W hkey es.toList F.keys with ⟨g1, g2⟩ | ⟨j, e0, g1, g2, g3⟩
  · have hr : (Instr.mapEntry 27 (.map (some b)) (.agg #[.int .u64 (x : Int), .int .u64 (y : Int)])).run Try.prog W = .ok (.tuple #[.int .i64 0, goInt clock]) (setBlock W b (.map (es.push ⟨.agg #[.int .u64 (x : Int), .int .u64 (y : Int)], .int .i64 0, clock⟩) (clock + 1))) := by
      simp [Instr.mapEntry, run_underlying Try.underlying27, MapKept.run_getObj_map hb, hchk, g1, Try.zeroI, MapKept.run_setObj_map _ hb, Result.andThen, setBlock]
    have hu : (Instr.mapUpdate 27 (.map (some b)) (.agg #[.int .u64 (x : Int), .int .u64 (y : Int)]) (.int .i64 0)).run Try.prog W = .ok () (setBlock W b (.map (es.push ⟨.agg #[.int .u64 (x : Int), .int .u64 (y : Int)], .int .i64 0, clock⟩) (clock + 1))) := by
      simp [Instr.mapUpdate, run_underlying Try.underlying27, MapKept.run_getObj_map hb, hchk, g1, MapKept.run_setObj_map _ hb, Result.andThen, setBlock]
    rw [hrun] at hr
    injection hr with _ e1
    obtain ⟨W3, u1, u2, _⟩ := h1.update Try.keyP Try.underlying27 hn hkey (hval 0 (by decide))
    have u1' := hu.symm.trans u1
    injection u1' with _ e2
    rw [e1, e2]
    refine ⟨_, u2, h2.put _ _, fun x' y' hx' hy' => ?_⟩
    by_cases e : x' = x ∧ y' = y
    · obtain ⟨rfl, rfl⟩ := e
      rw [atKey_put_same h2 (by trivial), h0]
    · rw [atKey_put_other (fun he => e (K2_inj hx' hy' hx hy he)), h3 x' y' hx' hy']
  · have hj : es[j]? = some e0 := by simpa using g2
    have hsame : es.modify j (fun e => { e with key := .agg #[.int .u64 (x : Int), .int .u64 (y : Int)] }) = es := by
      apply Array.ext'
      rw [Array.toList_modify, Go.ChangeMaps.modify_eq_set _ _ _ _ g2]
      have : ({ e0 with key := .agg #[.int .u64 (x : Int), .int .u64 (y : Int)] } : MapEntry) = e0 := by rw [← g3]
      rw [this]
      exact Go.WideElems.set_self _ _ _ g2
    have hr : (Instr.mapEntry 27 (.map (some b)) (.agg #[.int .u64 (x : Int), .int .u64 (y : Int)])).run Try.prog W = .ok (.tuple #[e0.val, goInt e0.born]) (setBlock W b (.map es clock)) := by
      simp [Instr.mapEntry, run_underlying Try.underlying27, MapKept.run_getObj_map hb, hchk, g1, hj, g3, Try.pairK.law.stays W hkey, hsame, MapKept.run_setObj_map _ hb, Result.andThen, setBlock]
    rw [hrun] at hr
    injection hr with _ e1
    rw [e1]
    refine MapT.mono (n := n) ⟨D, ⟨es, clock, heap_setBlock_same hb _, F, hs, hD⟩, h2, h3⟩ (by omega)
end Go.Proofs.Ytpkdcbfhacgklaa
/- interrexlaw15.TableRises: the walk. -/
namespace Go.Proofs.Ytpkdcbfhacgklaa
open Go.RowKit

theorem lastA_set {t : List T3} {i c : Nat} {x : T3} (hi : i < t.length) : lastA (t.set i x) c = if c = i then x.1 else lastA t c := by
  unfold lastA
  by_cases h : c = i
  · subst h; rw [if_pos rfl, List.getElem?_set_self hi]; rfl
  · rw [if_neg h, List.getElem?_set_ne (fun e => h e.symm)]
theorem putA_ok {t : List T3} {i num e : Nat} {l : List ByteArray} (hl : t.length = 8) (h : (putA t i num e l).2 = 0) :
    i < 8 ∧ lastA t i < num ∧ num ≤ 1099511627776 ∧ lastA (putA t i num e l).1 i = num ∧ repA (putA t i num e l).1 i = (e, keptL e l) ∧ judgeA (putA t i num e l).1 i num = 2 := by
  unfold putA at h ⊢
  split at h
  · cases h
  · split at h
    · rename_i h0 h3
      obtain ⟨h1, h2, h4, h5⟩ := judge_lt h3
      rw [if_neg h0, if_pos h3]
      have hla : lastA (t.set i (num, e, keptL e l)) i = num := by rw [lastA_set (by omega), if_pos rfl]
      refine ⟨h1, h5, h4, hla, ?_, ?_⟩
      · unfold repA; rw [List.getElem?_set_self (by omega)]; rfl
      · unfold judgeA; rw [hla, if_neg (by omega), if_neg (by omega), if_pos rfl]
    · cases h
theorem putA_last {t : List T3} {i num e : Nat} {l : List ByteArray} (hl : t.length = 8) (c : Nat) :
    lastA t c ≤ lastA (putA t i num e l).1 c ∧ ((c ≠ i ∨ (putA t i num e l).2 ≠ 0) → lastA (putA t i num e l).1 c = lastA t c) := by
  unfold putA
  split
  · exact ⟨Nat.le_refl _, fun _ => rfl⟩
  · split
    · rename_i h0 h3
      obtain ⟨h1, h2, h4, h5⟩ := judge_lt h3
      rw [lastA_set (by omega)]
      by_cases hc : c = i
      · subst hc; rw [if_pos rfl]; exact ⟨by simp only []; omega, fun h => by simp at h⟩
      · rw [if_neg hc]; exact ⟨Nat.le_refl _, fun _ => rfl⟩
    · exact ⟨Nat.le_refl _, fun _ => rfl⟩
/-- What was taken is not above the last. -/
def RiseI (t : List T3) (f : Nat → Nat → Nat) : Prop := ∀ x y, 0 < f x y → y ≤ lastA t x
theorem RiseI.put {t : List T3} {f : Nat → Nat → Nat} (h : RiseI t f) {i num e : Nat} {l : List ByteArray} (hl : t.length = 8) : RiseI (putA t i num e l).1 f := fun x y h0 =>
  Nat.le_trans (h x y h0) (putA_last hl x).1
theorem RiseI.took {t : List T3} {f : Nat → Nat → Nat} (h : RiseI t f) {i num e c : Nat} {l : List ByteArray} (hl : t.length = 8) (hk : (putA t i num e l).2 = 0) : RiseI (putA t i num e l).1 (putF2 f i num c) := fun x y h0 => by
  unfold putF2 at h0
  split at h0
  · rename_i e1
    obtain ⟨rfl, rfl⟩ := e1
    rw [(putA_ok hl hk).2.2.2.1]
    exact Nat.le_refl _
  · exact h.put hl x y h0
theorem RiseI.new {t : List T3} {f : Nat → Nat → Nat} (h : RiseI t f) {i num e : Nat} {l : List ByteArray} (hl : t.length = 8) (hk : (putA t i num e l).2 = 0) : f i num = 0 := by
  have h1 := (putA_ok hl hk).2.1
  rcases Nat.eq_zero_or_pos (f i num) with h0 | h0
  · exact h0
  · have := h i num h0; omega
/-- The row of last numbers, as far as it is filled. -/
def wasC (t : List T3) (j : Nat) : Array Value := ((List.range 8).map fun c => Value.int .u64 ((if c < j then lastA t c else 0 : Nat) : Int)).toArray
theorem wasC_get (t : List T3) (j c : Nat) (hc : c < 8) : (wasC t j)[c]? = some (.int .u64 ((if c < j then lastA t c else 0 : Nat) : Int)) := by
  unfold wasC
  simp [hc]
theorem wasC_set (t : List T3) (j : Nat) (hj : j < 8) : (wasC t j).setIfInBounds j (.int .u64 (lastA t j : Nat)) = wasC t (j + 1) := by
  apply Array.ext_getElem?
  intro c
  by_cases hc : c < 8
  · rw [wasC_get t (j + 1) c hc, Array.getElem?_setIfInBounds]
    by_cases h : j = c
    · subst h; simp [wasC, hj]
    · rw [if_neg h, wasC_get t j c hc]
      have : (c < j) = (c < j + 1) := by rw [eq_iff_iff]; omega
      simp only [this]
  · rw [Array.getElem?_eq_none (by simp [wasC]; omega), Array.getElem?_eq_none (by simp [wasC]; omega)]
theorem wasC_zero (t : List T3) : wasC t 0 = #[.int .u64 0, .int .u64 0, .int .u64 0, .int .u64 0, .int .u64 0, .int .u64 0, .int .u64 0, .int .u64 0] := rfl
/-! ### The taking of a number -/
/-- Block pm may turn; a map that reads as f behind a step read so ahead of it. -/
structure FrM (pm n : Nat) (f : Nat → Nat → Nat) (w w' : World) : Prop where
  fr : Fr (eqB pm) w w'
  back : MapT w' pm n f → MapT w pm n f
theorem FrM.refl (pm n : Nat) (f : Nat → Nat → Nat) (w : World) : FrM pm n f w w := ⟨Fr.refl _ _, id⟩
theorem FrM.drew (pm n : Nat) (f : Nat → Nat → Nat) (w : World) : FrM pm n f w w.drew := ⟨(Fr.refl _ _).drew, fun h => h.same rfl⟩
theorem FrM.then' {pm n : Nat} {f : Nat → Nat → Nat} {a b c : World} (h : FrM pm n f a b) (k : FrM pm n f b c) : FrM pm n f a c := ⟨h.fr.then' k.fr, fun x => h.back (k.back x)⟩
/-- A count that is d while the map reads as f. -/
def CntV (pm n : Nat) (f : Nat → Nat → Nat) (d : Nat) : Stb (FrM pm n f) :=
  ⟨fun v W => ∃ c : Nat, c ≤ d + 1 ∧ v = .int .i64 (c : Int) ∧ (c = d ∨ ¬ MapT W pm n f), fun _ _ _ ⟨c, h1, h2, h3⟩ r => ⟨c, h1, h2, h3.imp id fun h x => h (r.back x)⟩⟩
def AnyM (pm n : Nat) (f : Nat → Nat → Nat) : Stb (FrM pm n f) := ⟨fun _ _ => True, fun _ _ _ _ _ => trivial⟩
def TakeC (pm k : Nat) (f : Nat → Nat → Nat) (x y : Nat) : Nat → Value → Value → World → Prop
  | 0, _, _, W => MapT W pm k f
  | 1, v, _, W => ∃ (v0 : Value) (st : Nat), v = .tuple #[v0, goInt st] ∧ EntryAt W pm k f x y st
  | 2, _, v, W => ∃ st : Nat, v = goInt st ∧ EntryAt W pm k f x y st
  | _, _, _, W => MapT W pm (k + 1) (putF2 f x y 1)
theorem TakeC.reads {pm k q : Nat} {f : Nat → Nat → Nat} {x y : Nat} {v v' : Value} {W : World} (h : TakeC pm k f x y q v v' W) (hx : x < 18446744073709551616) (hy : y < 18446744073709551616) (h0 : f x y = 0) :
    ∃ c : Nat, c ≤ 1 ∧ (Instr.lookup 27 (.map (some pm)) (.agg #[.int .u64 (x : Int), .int .u64 (y : Int)]) false).run Try.prog W = .ok (.int .i64 (c : Int)) W ∧ (c = 0 ∨ ¬ MapT W pm (k + 1) f) := by
  have hz : ∀ n, MapT W pm n f → (Instr.lookup 27 (.map (some pm)) (.agg #[.int .u64 (x : Int), .int .u64 (y : Int)]) false).run Try.prog W = .ok (.int .i64 ((0 : Nat) : Int)) W := fun n hm => by
    have := hm.look hx hy; rw [h0] at this; exact this
  match q, h with
  | 0, h => exact ⟨0, by omega, hz _ h, Or.inl rfl⟩
  | 1, ⟨_, _, _, _, _, _, h, _⟩ => exact ⟨0, by omega, hz _ h, Or.inl rfl⟩
  | 2, ⟨_, _, _, _, _, h, _⟩ => exact ⟨0, by omega, hz _ h, Or.inl rfl⟩
  | q + 3, h =>
    have h1 := MapT.look h hx hy
    have h2 : putF2 f x y 1 x y = 1 := by simp [putF2]
    rw [h2] at h1
    refine ⟨1, Nat.le_refl _, h1, Or.inr fun hm => ?_⟩
    have := h1.symm.trans (hz _ hm)
    injection this with this; injection this with _ this; omega
theorem TakeC.fr0 {pm k q : Nat} {f : Nat → Nat → Nat} {x y : Nat} {v v' : Value} {W W' : World} (h : TakeC pm k f x y q v v' W) (hf : W'.heap[pm]? = W.heap[pm]?) : TakeC pm k f x y q v v' W' := by
  match q, h with
  | 0, h => exact MapT.same h hf
  | 1, ⟨v0, st, e, es, c, h1, h2, h3⟩ => exact ⟨v0, st, e, es, c, hf.trans h1, h2.same hf, h3⟩
  | 2, ⟨st, e, es, c, h1, h2, h3⟩ => exact ⟨st, e, es, c, hf.trans h1, h2.same hf, h3⟩
  | q + 3, h => exact MapT.same h hf
/-- A reply that lies in new memory. -/
def RepN (e : Nat) (l : List ByteArray) : Stb (Fr noB) :=
  ⟨fun v W => ∃ A n c, v = .agg #[.int .i64 e, .slice A n c] ∧ l.length = n ∧ RowAt W A (strs l), fun _ _ _ ⟨A, n, c, h1, h2, h3⟩ f => ⟨A, n, c, h1, h2, h3.fr0 f⟩⟩
end Go.Proofs.Ytpkdcbfhacgklaa
