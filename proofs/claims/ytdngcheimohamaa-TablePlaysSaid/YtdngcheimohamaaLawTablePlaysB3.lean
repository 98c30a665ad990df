/- What the row leans on, part 3: contracts and plain laws. -/
import Derived.Test.YtdngcheimohamaaProg
import Derived.WalkKit
import Derived.Maps.AppendAt
import Derived.Lib.AppendStr
import Derived.Laws.AppendOwnNone
import Derived.Deep.Draws
import Derived.SliceStrings
import Derived.Deep.Slices
import Derived.WalkSpells
import Derived.Laws.IdiomStrings
import Derived.Lib.ConvBytes
import Derived.Laws.Bits64b
import Derived.Deep.Cut
import Derived.Lib.LaidTab
import Derived.LaidSub
import Derived.Deep.QuietTactic
import Derived.BigQuiet
import Derived.Lib.OthersKept
import Derived.Laws.RangeAny
import Derived.LaidEqlPtr
import Derived.Laws.StructEq
import Derived.Deep.RegionHeld3
import Derived.Laws.MakeOwn
import Derived.Deep.MidRow
import Derived.Laws.ResultCell
import Derived.Deep.Light
import Derived.Maps.OwnOps
import Derived.Maps.Views
import Derived.WideKeyPair
import Derived.WideKeyEntry
import Derived.Test.YtdngcheimohamaaLawTablePlaysB2
/- interrexlaw15: bytes, reply, few, lives. -/
namespace Go.Proofs.Ytdngcheimohamaa
open Go.RowKit
theorem WrAt.made' {w : World} {n0 : Nat} (h : w.heap.size = n0) : WrAt (w.alloc (.cells #[.slice none 0 0] 101)) (upB n0) n0 [] := by
  subst h; exact WrAt.new w
theorem TblA.sums {w : World} {U : Nat → Prop} {p : Nat} {t : List T3} (h : TblA w U p t) : ∀ x ∈ t, sumSz x.2.2 ≤ 1000000 := by
  obtain ⟨R, h1, rfl⟩ := h
  intro x hx
  obtain ⟨r, hr, rfl⟩ := List.mem_map.1 hx
  exact (h1.rows r hr).sum
set_option maxRecDepth 100000 in
theorem bytesT_calls (w : World) (U : Nat → Prop) (p : Nat) (t : List T3) (h : TblA w U p t) : Calls Try.prog 15 #[.pointer (some ⟨p, 0, none⟩)] w (StrPost w (tblB t)) := by
  have hl := tblB_length t h.sums
  rw [h.len] at hl
  obtain ⟨R, hR, rfl⟩ := h
  have hm := hR.mono (V := fun k => k < w.heap.size) (fun k hk _ => hk)
  have f0 : Fr noB w (w.alloc (.cells #[.slice none 0 0] 101)) := (Fr.refl noB w).alloc _
  have hm0 := hm.fr f0 (fun _ _ _ => id)
  have hw0 := WrAt.made' (w := w) rfl
  have hs0 := al_size w (.cells #[.slice none 0 0] 101)
  have hwt := writeT_calls (w.alloc (.cells #[.slice none 0 0] 101)) p w.heap.size w.heap.size R _ [] hm0 hw0 (fun _ h => h) (by omega) (by simp)
  rw [List.nil_append] at hwt
  generalize tblB (R.map TRow.abs) = bs at *
  clear hm hm0 hw0 hR
  go_enter Try.func15, Try.ntmps15
  go_upto_region 2 with fail
  generalize hwa : (w.alloc (.cells #[.slice none 0 0] 101)) = wa at *
  clear hwa
  go_wp2_with fail
  refine hwt.mono ?_
  rintro e w1 ⟨rfl, h1, f1⟩
  have F1 := f0.trans f1 (fun i hi h => by unfold upB at h; omega)
  clear f0 f1 hwt
  go_wp2_with fail
  refine (bytes_calls w1 _ _ bs h1 (by omega)).mono ?_
  rintro e w2 ⟨A, c, rfl, h2, f2⟩
  have F2 := F1.then' f2
  have hst := Try.toStr (own_row h2) rfl c
  clear h2 f2 h1 F1
  go_wp2_with fail
  go_ret
  exact ⟨rfl, F2⟩

/-! ### Acts -/
structure ActT where
  k : Nat
  cl : Nat
  num : Nat
  e : Nat
  A : Option Addr
  n : Nat
  c : Nat
  l : List ByteArray
def ActT.C (a : ActT) : List Value := [.int .u8 a.k, .int .u8 a.cl, .int .u64 a.num, .int .u8 a.e, .slice a.A a.n a.c]
structure ActT.ok (a : ActT) : Prop where
  k : a.k < 256
  cl : a.cl < 256
  num : a.num < 18446744073709551616
  e : a.e < 256
  len : a.l.length = a.n
  cap : a.n ≤ a.c
  max : a.c ≤ 9223372036854775807
  nil : a.A = none → a.n = 0 ∧ a.c = 0
structure ActsAt (w : World) (A : Option Addr) (L : List ActT) : Prop where
  row : RowAt w A (L.flatMap ActT.C)
  sub : ∀ a ∈ L, RowAt w a.A (strs a.l)
theorem ActsAt.fr0 {w w' : World} {A : Option Addr} {L : List ActT} (h : ActsAt w A L) (f : Fr noB w w') : ActsAt w' A L := ⟨h.row.fr0 f, fun a ha => (h.sub a ha).fr0 f⟩
set_option maxRecDepth 100000 in
theorem reply15_calls (w : World) (a : ActT) : Calls Try.prog 12 #[.agg #[.int .u8 a.k, .int .u8 a.cl, .int .u64 a.num, .int .u8 a.e, .slice a.A a.n a.c]] w (fun e w' => e = .returned (.agg #[.int .i64 (a.e % 19 : Nat), .slice a.A a.n a.c]) ∧ Fr noB w w') := by
  obtain ⟨k, cl, num, e, A, n, c, l⟩ := a
  simp only []
  have f0 : Fr noB w ((w.alloc (.cells #[.int .u8 k, .int .u8 cl, .int .u64 num, .int .u8 e, .slice A n c] 36)).alloc (.cells #[.int .i64 0, .slice none 0 0] 42)) := ((Fr.refl noB w).alloc _).alloc _
  have hb0 : BlkAt ((w.alloc (.cells #[.int .u8 k, .int .u8 cl, .int .u64 num, .int .u8 e, .slice A n c] 36)).alloc (.cells #[.int .i64 0, .slice none 0 0] 42)) w.heap.size 36 #[.int .u8 k, .int .u8 cl, .int .u64 num, .int .u8 e, .slice A n c] := (BlkAt.new _ _ _).al _
  have hb1 : BlkAt ((w.alloc (.cells #[.int .u8 k, .int .u8 cl, .int .u64 num, .int .u8 e, .slice A n c] 36)).alloc (.cells #[.int .i64 0, .slice none 0 0] 42)) (w.heap.size + 1) 42 #[.int .i64 0, .slice none 0 0] := by
    have := BlkAt.new (w.alloc (.cells #[.int .u8 k, .int .u8 cl, .int .u64 num, .int .u8 e, .slice A n c] 36)) #[.int .i64 0, .slice none 0 0] 42
    rwa [al_size] at this
  have hr : Hid (Try.f12.results = #[.cell 2 42]) := by unfold Hid; kernel_rfl
  obtain ⟨e19, he19⟩ : ∃ x, e % 19 = x := ⟨_, rfl⟩
  have hce : (e : Int) % 19 = e19 := by omega
  rw [he19]
  have HE := hid he19
  clear he19
  go_enter Try.func12, Try.ntmps12
  go_upto_region 1 with fail
  generalize ((w.alloc (.cells #[.int .u8 k, .int .u8 cl, .int .u64 num, .int .u8 e, .slice A n c] 36)).alloc (.cells #[.int .i64 0, .slice none 0 0] 42)) = wa at *
  obtain ⟨x0, x1, x2, x3, x4, xf⟩ := BlkAt.c5 hb0
  obtain ⟨y0, y1, yf⟩ := BlkAt.c2 hb1
  have FF := f0.trans (fr_two wa (w.heap.size + 1) (.int .i64 e19) (.slice A n c)) (fun i hi h => by unfold eqB at h; omega)
  go_wp2_with fail
  have hr := hr.out
  exact bodyPost_ret (v := .agg #[.int .i64 e19, .slice A n c]) (by simp [results, hr, go_sem, y0, y1]) rfl ⟨rfl, FF⟩
def ActT.small (a : ActT) : Bool := decide (a.n ≤ 10) && a.l.all fun s => decide (s.size ≤ 50)
def fewT (L : List ActT) : Bool := L.all ActT.small && decide (L.length ≤ 40)
set_option maxRecDepth 100000 in
set_option maxHeartbeats 1600000 in
theorem few15_calls (w : World) (A : Option Addr) (cap n : Nat) (L : List ActT) (h : ActsAt w A L) (HN : Hid (L.length = n)) (hl : n ≤ 9223372036854775807) (hok : ∀ a ∈ L, a.ok) :
    Calls Try.prog 8 #[.slice A n cap] w (BoolPost w (fewT L)) := by
  go_enter Try.func8, Try.ntmps8
  go_wp2_with fail
  go_loopw [9] (fun i wr => ∃ k : Nat, k ≤ n ∧ i = .int .i64 k ∧ (L.take k).all ActT.small = true ∧ Fr noB w wr) (fun i _ => n - (intOf i).toNat)
  case atStart => exact ⟨0, Nat.zero_le _, rfl, by simp, Fr.refl _ _⟩
  case round =>
    obtain ⟨k, hk, rfl, ha, hf⟩ := hrel
    by_cases hkn : k < n
    · obtain ⟨a, hit⟩ : ∃ a, L[k]? = some a := ⟨_, List.getElem?_eq_getElem (by rw [HN.out]; exact hkn)⟩
      obtain ⟨ad, rfl⟩ := h.row.some_flat (by simp [ActT.C]) hit
      obtain ⟨c0, c1, c2, c3, c4⟩ := ((h.row.seg 5 (fun _ => rfl) hit).fr hf id).c5
      have hmem := List.mem_of_getElem? hit
      have HT : Hid ((L.take (k + 1)).all ActT.small = a.small) := by
        unfold Hid; rw [take_snoc' hit, List.all_append, ha]; simp
      have HF : Hid (a.small = false → fewT L = false) := fun e => by
        unfold fewT; rw [List.all_eq_false.2 ⟨a, hmem, by rw [e]; decide⟩]; rfl
      have hsub := h.sub a hmem
      have hq := hok a hmem
      have HB : Hid (a.n ≤ 10 → a.small = a.l.all fun s => decide (s.size ≤ 50)) := fun b1 => by unfold ActT.small; rw [decide_eq_true b1]; rfl
      have HB2 : Hid (¬ a.n ≤ 10 → a.small = false) := fun b1 => by unfold ActT.small; rw [decide_eq_false b1]; rfl
      have HL : Hid (a.l.length = a.n) := hq.len
      generalize a.small = ok at *
      obtain ⟨ak, acl, anum, ae, aA, m, ac, al⟩ := a
      simp only [] at *
      clear ha hmem hit hq
      by_cases b2 : m ≤ 10
      · go_wp2_with fail
        go_loop [20] (fun i => ∃ j : Nat, j ≤ m ∧ i = .int .i64 j ∧ (al.take j).all (fun s => decide (s.size ≤ 50)) = true) (fun i => m - (intOf i).toNat)
        case atStart => exact ⟨0, Nat.zero_le _, rfl, by simp⟩
        case round =>
          obtain ⟨j, hj, rfl, hja⟩ := hrel
          by_cases hjm : j < m
          · obtain ⟨s, hs⟩ : ∃ s, al[j]? = some s := ⟨_, List.getElem?_eq_getElem (by rw [HL.out]; exact hjm)⟩
            obtain ⟨ae', rfl⟩ := strs_pos hsub hs
            have hcx := cell_al (hf.cell (hsub.cell (strs_get hs)) id)
            have HS : Hid ((al.take (j + 1)).all (fun s => decide (s.size ≤ 50)) = decide (s.size ≤ 50)) := by
              unfold Hid; rw [take_snoc' hs, List.all_append, hja]; simp
            have HS2 : Hid (¬ s.size ≤ 50 → al.all (fun s => decide (s.size ≤ 50)) = false) := fun h => List.all_eq_false.2 ⟨s, List.mem_of_getElem? hs, by simpa using h⟩
            clear hja hs
            by_cases b3 : s.size ≤ 50
            · go_wp2_with fail
              go_round
              case rel => exact ⟨j + 1, by omega, by go_num, by rw [HS.out]; exact decide_eq_true b3⟩
              case measure => simp [intOf]; omega
            · go_wp2_with fail
              go_ret
              exact BoolPost.mk' (HF.out ((HB.out (by omega)).trans (HS2.out b3))).symm (hf.alloc _)
          · have : j = m := by omega
            subst this
            have HS : Hid (ok = true) := by
              unfold Hid; rw [HB.out (by omega)]; rw [List.take_of_length_le (by rw [HL.out]; exact Nat.le_refl _)] at hja; exact hja
            clear hja
            go_wp2_with fail
            go_roundw
            case rel => exact ⟨k + 1, by omega, by go_num, by rw [HT.out]; exact HS.out, hf.alloc _⟩
            case measure => simp [intOf]; omega
      · go_wp2_with fail
        go_ret
        exact BoolPost.mk' (HF.out (HB2.out b2)).symm (hf.alloc _)
    · have : k = n := by omega
      subst this
      have HE : Hid (fewT L = decide (k ≤ 40)) := by
        unfold Hid fewT; rw [HN.out]; rw [List.take_of_length_le (by rw [HN.out]; exact Nat.le_refl _)] at ha; rw [ha]; rfl
      clear ha
      go_wp2_with fail
      go_ret
      refine BoolPost.mk' ?_ hf
      rw [HE.out]
      exact decide_eq_decide.2 (by omega)
set_option maxRecDepth 100000 in
set_option maxHeartbeats 1600000 in
theorem lives15_calls (w : World) : Calls Try.prog 7 #[] w (BoolPost w true) := by
  have hput := fun W h => putT_calls W (upB w.heap.size) w.heap.size zeroT 2 5 8 none 0 0 [] h
  have hpa : putA zeroT 2 5 8 [] = (zeroT.set 2 (5, 8, []), 0) := by decide
  have hj := fun W n h => judgeA_calls W (upB w.heap.size) w.heap.size (zeroT.set 2 (5, 8, [])) 2 n h
  have j4 : judgeA (zeroT.set 2 (5, 8, [])) 2 4 = 1 := by decide
  have j5 : judgeA (zeroT.set 2 (5, 8, [])) 2 5 = 2 := by decide
  have j6 : judgeA (zeroT.set 2 (5, 8, [])) 2 6 = 3 := by decide
  have j0 : judgeA (zeroT.set 2 (5, 8, [])) 2 0 = 0 := by decide
  have h4 := fun W h => hj W 4 h
  have h5 := fun W h => hj W 5 h
  have h6 := fun W h => hj W 6 h
  have h0 := fun W h => hj W 0 h
  rw [hpa] at hput
  rw [j4] at h4
  rw [j5] at h5
  rw [j6] at h6
  rw [j0] at h0
  have heq := Try.prog
  generalize zeroT.set 2 (5, 8, []) = t1 at *
  have HP := hid hput
  clear hpa hj j4 j5 j6 j0 heq hput
  go_enter Try.func7, Try.ntmps7
  go_wp2_with fail
  refine (newTA_calls w).mono ?_
  rintro e w1 ⟨rfl, ht1, f1⟩
  have hs1 := f1.size
  go_wp2_with fail
  refine (HP.out w1 ht1 (fun k hk => by unfold upB; omega) (RowAt.nil _ _) (by simp) (by simp) (by decide) (by decide) (by decide) (by decide) (fun a ea => by cases ea)).mono ?_
  rintro e w2 ⟨rfl, ht2, f2⟩
  have F2 : Fr noB w w2 := f1.trans f2 (fun i hi h => by unfold eqB at h; omega)
  clear HP ht1 f1 f2
  go_wp2_with fail
  refine (h4 w2 ht2).mono ?_
  rintro e w3 ⟨rfl, rfl⟩
  go_wp2_with fail
  refine (h5 w2 ht2).mono ?_
  rintro e w3 ⟨rfl, rfl⟩
  go_wp2_with fail
  refine (h6 w2 ht2).mono ?_
  rintro e w3 ⟨rfl, rfl⟩
  go_wp2_with fail
  refine (h0 w2 ht2).mono ?_
  rintro e w3 ⟨rfl, rfl⟩
  go_wp2_with fail
  go_ret
  exact BoolPost.mk' rfl F2
end Go.Proofs.Ytdngcheimohamaa
/- op.text, (*op.Op).read. -/
namespace Go.Proofs.Ytdngcheimohamaa
open Go.RowKit

theorem RdAt.inn {w : World} {S : Nat → Prop} {p : Nat} {r : Rd} (h : RdAt w S p r) : RdAt w (fun k => S k ∧ k < w.heap.size) p r := by
  obtain ⟨A, n, c, T, h⟩ := h
  refine ⟨A, n, c, T, h.len, h.heap, h.row, h.cap, h.max, h.nil, ⟨h.inS, (Array.getElem?_eq_some_iff.1 h.heap).1⟩, fun h0 a e => ?_, h.err⟩
  obtain ⟨h1, h2⟩ := h.rowS h0 a e
  subst e
  exact ⟨⟨h1, h.row.lt (by rw [bcells_length, h.len.out]; exact h0)⟩, h2⟩
/-- One of a sign's parts, as it is read. -/
def rdPart (o : OpV) (r : Rd) (c : UInt8) : OpV × Rd :=
  if c = 97 then ({o with a := mkS (rText r 65535).2}, (rText r 65535).1) else if c = 98 then ({o with b := mkS (rText r 65535).2}, (rText r 65535).1)
  else if c = 110 then ({o with n := (rNum r 1).2}, (rNum r 1).1) else if c = 114 then ({o with r := (rNum r 1).2}, (rNum r 1).1) else (o, r)
def rdSign (s : OpV × Rd) (c : UInt8) : OpV × Rd := ((rdPart s.1 s.2 c).1, if (rdPart s.1 s.2 c).2.e = 0 ∧ rightV (rdPart s.1 s.2 c).1 c = false then rFail (rdPart s.1 s.2 c).2 4 else (rdPart s.1 s.2 c).2)
def orB (S : Nat → Prop) (p : Nat) : Nat → Prop := fun k => S k ∨ k = p
theorem rdSign_keep {o o' : OpV} {r r' : Rd} {c : UInt8} (h : rdPart o r c = (o', r')) (hk : r'.e ≠ 0 ∨ rightV o' c = true) : rdSign (o, r) c = (o', r') := by
  unfold rdSign; rw [h]
  rw [if_neg]
  rintro ⟨h1, h2⟩
  rcases hk with hk | hk
  · exact hk h1
  · simp only [] at h2; rw [hk] at h2; cases h2
theorem rdSign_fail {o o' : OpV} {r r' : Rd} {c : UInt8} (h : rdPart o r c = (o', r')) (h1 : r'.e = 0) (h2 : rightV o' c = false) : rdSign (o, r) c = (o', rFail r' 4) := by
  unfold rdSign; rw [h]
  rw [if_pos ⟨h1, h2⟩]

end Go.Proofs.Ytdngcheimohamaa
/- Contracts of interrexref01's Reader. -/
namespace Go.Proofs.Ytdngcheimohamaa
open Go.RowKit

def Rd.inv (r : Rd) : Prop := r.e ≠ 0 → r.bs = []
/-- A Reader of the reference, as a value. -/
def Rd.val (r : Rd) : Value := .agg #[.string (mkS r.bs), .int .i64 (r.e : Nat)]
theorem rFail_inv {r : Rd} (k : Nat) (h : r.inv) : (rFail r k).inv := by
  unfold rFail Rd.inv at *
  split
  · intro _; rfl
  · exact h
theorem rTake_inv {r : Rd} (n : Nat) (h : r.inv) : (rTake r n).1.inv := by
  unfold rTake
  split
  · exact rFail_inv 2 h
  · intro e; simp only at e ⊢; rw [h e]; simp
theorem fr_set2 (W : World) (b : Nat) (u v : Value) : Fr (eqB b) W ((W.setCell ⟨b, 0, none⟩ u).setCell ⟨b, 1, none⟩ v) :=
  Fr.setCell (S := eqB b) (Fr.setCell (S := eqB b) (Fr.refl _ W) (p := ⟨b, 0, none⟩) (Or.inl rfl) u) (p := ⟨b, 1, none⟩) (Or.inl rfl) v
theorem set2 {w : World} {b : Nat} {x y u v : Value} {t : TypeId} (h : w.heap[b]? = some (.cells #[x, y] t (0, 0))) : ((w.setCell ⟨b, 0, none⟩ u).setCell ⟨b, 1, none⟩ v).heap[b]? = some (.cells #[u, v] t (0, 0)) := two_set1 (two_set0 h)
theorem cells2 {W : World} {b : Nat} {x y : Value} {t : TypeId} (h : W.heap[b]? = some (.cells #[x, y] t (0, 0))) : W.cell? ⟨b, 0, none⟩ = some x ∧ W.cell? ⟨b, 1, none⟩ = some y := by
  constructor <;> simp [World.cell?, h]
theorem heap_al {W : World} {b : Nat} {o : Obj} (h : W.heap[b]? = some o) (o' : Obj) : (W.alloc o').heap[b]? = some o := ((Fr.refl noB W).alloc o').heap h id
theorem fr_cells {W w1 : World} {S : Nat → Prop} (f : Fr S W w1) {b : Nat} {c : Array Value} {t : TypeId} (h : W.heap[b]? = some (.cells c t (0, 0))) (hS : ¬ S b) :
    (∀ j v, c[j]? = some v → w1.cell? ⟨b, j, none⟩ = some v) ∧ ∀ j, w1.frozen? ⟨b, j, none⟩ = false := by
  have h1 := f.heap h hS
  exact ⟨fun j v hv => by simp [World.cell?, h1, hv], fun j => by simp [World.frozen?, h1]⟩
theorem heap_two (w : World) (A B : Obj) : ((w.alloc A).alloc B).heap[w.heap.size]? = some A ∧ ((w.alloc A).alloc B).heap[w.heap.size + 1]? = some B := by
  constructor
  · rw [Below.heap_alloc _ _ _ (by simp)]; exact heap_alloc_new w A
  · have := heap_alloc_new (w.alloc A) B
    rwa [World.size_alloc] at this
theorem mkS_from (bs : List UInt8) (k : Nat) : (mkS bs).extract k bs.length = mkS (bs.drop k) := by
  apply ByteArray.ext; apply Array.ext'
  simp [mkS]
  exact List.take_of_length_le (by simp)
theorem mkS_to (bs : List UInt8) (k : Nat) : (mkS bs).extract 0 k = mkS (bs.take k) := by
  apply ByteArray.ext; apply Array.ext'
  simp [mkS]

end Go.Proofs.Ytdngcheimohamaa
/- Contracts of interrexref01: Value, Get, GetTruth. -/
namespace Go.Proofs.Ytdngcheimohamaa
open Go.RowKit

theorem u64_wrap (x : Nat) (h : x < 18446744073709551616) : IntKind.u64.wrap (x : Int) = x := by
  rw [IntKind.wrap_u64]; omega
theorem leV_drop {bs : List UInt8} {m : Nat} (h : m < bs.length) : leV (bs.drop m) = (bs.getD m 0).toNat + 256 * leV (bs.drop (m + 1)) := by
  rw [List.drop_eq_getElem_cons h, leV, List.getD_eq_getElem?_getD, List.getElem?_eq_getElem h]
  rfl
theorem value_step {bs : List UInt8} {m : Nat} (hl : bs.length ≤ 8) (h : m < bs.length) :
    IntKind.u64.wrap (IntKind.u64.wrap ((leV (bs.drop (m + 1)) : Nat) * 256 : Int) + IntKind.u64.wrap (((bs[m]?.getD 0).toNat : Nat) : Int)) = ((leV (bs.drop m) : Nat) : Int) := by
  have h1 := leV_drop h
  have h2 := leV_lt (bs.drop m)
  have h3 : (256 : Nat) ^ (bs.drop m).length ≤ 256 ^ 8 := Nat.pow_le_pow_right (by omega) (by rw [List.length_drop]; omega)
  have h4 : (256 : Nat) ^ 8 = 18446744073709551616 := by decide
  rw [List.getD_eq_getElem?_getD] at h1
  have hb := (bs[m]?.getD 0).toNat_lt
  generalize (bs[m]?.getD 0).toNat = b at *
  generalize leV (bs.drop (m + 1)) = x at *
  generalize leV (bs.drop m) = y at *
  have e1 : ((x : Int) * 256) = ((x * 256 : Nat) : Int) := (Int.natCast_mul x 256).symm
  rw [e1, u64_wrap _ (by omega), u64_wrap _ (by omega), ← Int.natCast_add, u64_wrap _ (by omega)]
  omega
end Go.Proofs.Ytdngcheimohamaa
/- Contracts of interrexref01: GetTruth, GetText. -/
namespace Go.Proofs.Ytdngcheimohamaa
open Go.RowKit

theorem rNum_pos {r : Rd} {n : Nat} (hi : r.inv) (h : 0 < (rNum r n).2) : (rNum r n).1.e = 0 := by
  unfold rNum rTake at *
  split
  · rename_i h1; rw [if_pos h1] at h; simp [leV] at h
  · rename_i h1
    rw [if_neg h1] at h
    simp only at h ⊢
    rcases Nat.eq_zero_or_pos r.e with e | e
    · exact e
    · have := hi (by omega)
      rw [this] at h; simp [leV] at h
theorem rNum_inv {r : Rd} (n : Nat) (hi : r.inv) : (rNum r n).1.inv := rTake_inv n hi
theorem rFail_len (r : Rd) (k : Nat) : (rFail r k).bs.length ≤ r.bs.length := by
  unfold rFail; split <;> simp
theorem rTake_left (r : Rd) (n : Nat) : (rTake r n).1.bs.length ≤ r.bs.length := by
  unfold rTake; split
  · exact rFail_len r 2
  · simp
/-- The result's block and the box of a struct: what a call leaves. -/
def RRPost (w : World) (r : Rd) (v : Value) (e : Ending) (w' : World) : Prop := e = .returned (.tuple #[r.val, v]) ∧ Fr noB w w'

theorem rFail_ne {r : Rd} (k : Nat) (h : r.e ≠ 0) : rFail r k = r := by unfold rFail; rw [if_neg (by simp [h])]
end Go.Proofs.Ytdngcheimohamaa
/- Contract of interrexref01.GetRow. -/
namespace Go.Proofs.Ytdngcheimohamaa
open Go.RowKit

theorem rText_err {r : Rd} (hi : r.inv) (h : r.e ≠ 0) (long : Int) : rText r long = (r, []) := by
  have hb := hi h
  obtain ⟨bs, ee⟩ := r
  subst hb
  have h1 : rTake ⟨[], ee⟩ 2 = (⟨[], ee⟩, []) := by unfold rTake; rw [if_pos (by simp), rFail_ne 2 h]
  have h2 : rNum ⟨[], ee⟩ 2 = (⟨[], ee⟩, 0) := by unfold rNum; rw [h1]; rfl
  have h3 : rCount ⟨[], ee⟩ long = (⟨[], ee⟩, 0) := by unfold rCount; rw [h2, if_neg (by simp; omega)]
  unfold rText
  rw [h3]
  rfl
theorem rText_inv {r : Rd} (hi : r.inv) (long : Int) : (rText r long).1.inv := by
  unfold rText rCount
  refine rTake_inv _ ?_
  split
  · exact rFail_inv 3 (rNum_inv 2 hi)
  · exact rNum_inv 2 hi
theorem rCount_left (r : Rd) (most : Int) : (rCount r most).1.bs.length ≤ r.bs.length := by
  unfold rCount
  split
  · exact Nat.le_trans (rFail_len _ 3) (rTake_left r 2)
  · exact rTake_left r 2
theorem rText_left (r : Rd) (long : Int) : (rText r long).1.bs.length ≤ r.bs.length := Nat.le_trans (rTake_left _ _) (rCount_left r long)
theorem rTexts_inv {r : Rd} (hi : r.inv) (long : Int) (n : Nat) : (rTexts r long n).1.inv := by
  induction n with
  | zero => exact hi
  | succ n ih => exact rText_inv ih long
theorem rTexts_left (r : Rd) (long : Int) (n : Nat) : (rTexts r long n).1.bs.length ≤ r.bs.length := by
  induction n with
  | zero => exact Nat.le_refl _
  | succ n ih => exact Nat.le_trans (rText_left _ long) ih
theorem rTexts_err {r : Rd} (hi : r.inv) (long : Int) {n : Nat} (h : (rTexts r long n).1.e ≠ 0) : ∀ m, (rTexts r long (n + m)).1 = (rTexts r long n).1 := by
  intro m
  induction m with
  | zero => rfl
  | succ m ih =>
    show (rText (rTexts r long (n + m)).1 long).1 = _
    rw [rText_err (rTexts_inv hi long _) (by rw [ih]; exact h), ih]
theorem rRow_err {r r1 : Rd} {x : Nat} (hi : r1.inv) (most long : Int) (hc : rCount r most = (r1, x)) {k : Nat} (hk : k ≤ x) (h : (rTexts r1 long k).1.e ≠ 0) : rRow r most long = ((rTexts r1 long k).1, []) := by
  obtain ⟨m, rfl⟩ := Nat.exists_eq_add_of_le hk
  unfold rRow
  rw [hc]
  simp only
  rw [rTexts_err hi long h m, if_neg h]
theorem rRow_ok {r r1 : Rd} {x : Nat} (most long : Int) (hc : rCount r most = (r1, x)) (h : (rTexts r1 long x).1.e = 0) : rRow r most long = rTexts r1 long x := by
  unfold rRow
  rw [hc]
  simp only
  rw [if_pos h]

theorem cell_one_row' (w : World) (x : Value) (t : TypeId) {n : Nat} (h : w.heap.size = n) : RowAt (w.alloc (.cells #[x] t)) (some ⟨n, 0, none⟩) [x] := h ▸ cell_one_row w x t
/-- What GetRow leaves. -/
def RowRPost (w : World) (q : Rd × List ByteArray) (e : Ending) (w' : World) : Prop :=
  ∃ A n c, e = .returned (.tuple #[q.1.val, .slice A n c]) ∧ Hid (q.2.length = n) ∧ n ≤ 65535 ∧ RowAt w' A (strs q.2) ∧ (∀ ad, A = some ad → w.heap.size ≤ ad.block) ∧ Fr noB w w'

end Go.Proofs.Ytdngcheimohamaa
/- op.Get. -/
namespace Go.Proofs.Ytdngcheimohamaa
open Go.RowKit

/-- op.Get, as a function. -/
def repR1 (bs : List UInt8) : Rd := if 18 < (rNum ⟨bs, 0⟩ 1).2 then rFail (rNum ⟨bs, 0⟩ 1).1 4 else (rNum ⟨bs, 0⟩ 1).1
def repR3 (bs : List UInt8) : Rd := if (rNum ⟨bs, 0⟩ 1).2 ≠ 0 ∧ 0 < (rRow (repR1 bs) 400 400).2.length then rFail (rRow (repR1 bs) 400 400).1 4 else (rRow (repR1 bs) 400 400).1
def repGet (bs : List UInt8) : (Nat × List ByteArray) × Nat :=
  if rEnd (repR3 bs) = 0 then (((rNum ⟨bs, 0⟩ 1).2, (rRow (repR1 bs) 400 400).2), 0) else ((0, []), rEnd (repR3 bs))
/-- What a reply's Get leaves: memory that is new. -/
def RepPost (w : World) (q : (Nat × List ByteArray) × Nat) (e : Ending) (w' : World) : Prop :=
  ∃ A n c, e = .returned (.tuple #[.agg #[.int .i64 (q.1.1 : Nat), .slice A n c], .int .i64 (q.2 : Nat)]) ∧ Hid (q.1.2.length = n) ∧ RowAt w' A (strs q.1.2) ∧ (∀ ad, A = some ad → w.heap.size ≤ ad.block) ∧ n ≤ c ∧ c ≤ 9223372036854775807 ∧ (A = none → n = 0 ∧ c = 0) ∧ Fr noB w w'
theorem own_cap {w : World} {base n : Nat} {e : TypeId} {size : Nat} {A : Option Addr} {m c : Nat} {xs : List Value} (h : w.ownsRow base e size (.slice A m c) n xs) : m ≤ c ∧ c ≤ 9223372036854775807 ∧ ∀ ad, A = some ad → base ≤ ad.block := by
  rcases h.2 with ⟨e1, _⟩ | ⟨g, cap, cur, e1, hb, _, hc, hm, _⟩
  · injection e1 with h0 h1 h2; subst h0 h1 h2; exact ⟨Nat.le_refl _, by decide, fun _ h => by cases h⟩
  · injection e1 with h0 h1 h2; subst h0 h1 h2; exact ⟨hc, Nat.le_trans hm (by decide), fun ad h => by cases h; exact hb⟩
theorem own_nil {w : World} {base n : Nat} {e : TypeId} {size : Nat} {A : Option Addr} {m c : Nat} {xs : List Value} (h : w.ownsRow base e size (.slice A m c) n xs) : A = none → m = 0 ∧ c = 0 := by
  rcases h.2 with ⟨e1, _⟩ | ⟨g, cap, cur, e1, hb, _, hc, hm, _⟩
  · injection e1 with h0 h1 h2; subst h0 h1 h2; exact fun _ => ⟨rfl, rfl⟩
  · injection e1 with h0 h1 h2; subst h0; intro h; cases h

set_option maxRecDepth 100000 in
set_option maxHeartbeats 1600000 in
theorem opGet_calls (w : World) (A : Option Addr) (n c : Nat) (bs : List UInt8) (hx : RowAt w A (bcells bs)) (hn : bs.length = n) (hB : A = none → n = 0 ∧ c = 0) (hl : n ≤ 1000000000000) :
    Calls Try.prog 51 #[.slice A n c] w (RepPost w (repGet bs)) := by
  have hb0 : BlkAt (w.alloc (.cells #[.int .i64 0, .slice none 0 0] 42)) w.heap.size 42 #[.int .i64 0, .slice none 0 0] := BlkAt.new _ _ _
  have f0 : Fr noB w (w.alloc (.cells #[.int .i64 0, .slice none 0 0] 42)) := (Fr.refl noB w).alloc _
  have hz0 := al_size w (.cells #[.int .i64 0, .slice none 0 0] 42)
  have hoc := of_calls (w.alloc (.cells #[.int .i64 0, .slice none 0 0] 42)) A n c bs (hx.fr0 f0) hn hB hl
  have hr : Hid (Try.f51.results = #[.cell 2 42, .tmp 3]) := by unfold Hid; kernel_rfl
  have HV : Hid (repGet bs = if rEnd (repR3 bs) = 0 then (((rNum ⟨bs, 0⟩ 1).2, (rRow (repR1 bs) 400 400).2), 0) else ((0, []), rEnd (repR3 bs))) := rfl
  have H3 : Hid (repR3 bs = if (rNum ⟨bs, 0⟩ 1).2 ≠ 0 ∧ 0 < (rRow (repR1 bs) 400 400).2.length then rFail (rRow (repR1 bs) 400 400).1 4 else (rRow (repR1 bs) 400 400).1) := rfl
  have H1 : Hid (repR1 bs = if 18 < (rNum ⟨bs, 0⟩ 1).2 then rFail (rNum ⟨bs, 0⟩ 1).1 4 else (rNum ⟨bs, 0⟩ 1).1) := rfl
  clear hn hx hl hB
  go_enter Try.func51, Try.ntmps51
  go_wp2_with fail
  generalize (w.alloc (.cells #[.int .i64 0, .slice none 0 0] 42)) = wa at *
  refine hoc.mono ?_
  rintro e w1 ⟨p, rfl, hp1, hp2, h1, f1⟩
  obtain ⟨S, hS, HSd⟩ : ∃ S : Nat → Prop, RdAt w1 S p ⟨bs, 0⟩ ∧ ∀ k, S k → w.heap.size < k ∧ k < w1.heap.size := ⟨_, h1.inn, fun k hk => by have := hk.1; unfold upB at this; omega⟩
  replace hb0 := hb0.fr f1 id
  replace f0 := f0.then' f1
  clear h1 f1 hoc
  go_wp2_with fail
  have hb := byteRd_calls w1 S p ⟨bs, 0⟩ hS
  have hk2 := rNum_lt ⟨bs, 0⟩ 1
  generalize rNum ⟨bs, 0⟩ 1 = q1 at *
  obtain ⟨r, k⟩ := q1
  simp only [] at *
  refine hb.mono ?_
  rintro e w2 ⟨rfl, h2, f2⟩
  replace hb0 := hb0.fr f2 (fun h => by have := HSd _ h; omega)
  replace f0 := f0.trans f2 (fun i hi h => by have := HSd _ h; omega)
  have hs2 := f2.size
  clear hS hb f2
  have hne : ((k : Int) != 0) = decide (k ≠ 0) := by by_cases h : k = 0 <;> simp [h]
  obtain ⟨c1, hc1⟩ : ∃ c, ((k : Int) != 0) = c := ⟨_, rfl⟩
  have HC1 : Hid (c1 = true ↔ k ≠ 0) := by unfold Hid; rw [← hc1, hne, decide_eq_true_eq]
  clear hne
  by_cases h18 : 18 < k
  · have d1 : decide ((18 : Int) < k) = true := decide_eq_true (by omega)
    rw [if_pos h18] at H1
    rw [H1.out] at HV H3
    clear H1 h18
    go_wp2_with fail
    refine (fail_calls w2 S p r 4 h2).mono ?_
    generalize rFail r 4 = r1 at *
    rintro e w3 ⟨rfl, h3, f3⟩
    replace hb0 := hb0.fr f3 (fun h => by have := HSd _ h; omega)
    replace f0 := f0.trans f3 (fun i hi h => by have := HSd _ h; omega)
    have hs3 := f3.size
    clear h2 f3
    have HSd' : ∀ j, S j → j < w3.heap.size := fun j hj => by have := (HSd j hj).2; omega
    have hrow := rowRd_calls w3 S p r1 400 400 h3 HSd' (by decide) (by decide) (by decide) (by decide)
    generalize rRow r1 400 400 = q2 at *
    obtain ⟨r2, l2⟩ := q2
    simp only [] at *
    go_wp2_with fail
    refine hrow.mono ?_
    rintro e w5 ⟨A1, n1, c1', rfl, HN1, h5, hr5, f5⟩
    have hcap := own_cap h5
    have hnil := own_nil h5
    have hro := own_row h5
    replace hb0 := hb0.fr f5 (fun h => by have := HSd _ h; omega)
    replace f0 := f0.trans f5 (fun i hi h => by have := HSd _ h; omega)
    have hs5 := f5.size
    clear hrow h5 f5
    obtain ⟨c2, hc2⟩ : ∃ c, decide (0 < n1) = c := ⟨_, rfl⟩
    have HC2 : Hid (c2 = true ↔ 0 < l2.length) := by unfold Hid; rw [← hc2, decide_eq_true_eq, HN1.out]
    by_cases hb : c1 = true ∧ c2 = true
    · obtain ⟨rfl, rfl⟩ := hb
      rw [if_pos ⟨HC1.out.1 rfl, HC2.out.1 rfl⟩] at H3
      rw [H3.out] at HV
      clear H3
      go_wp2_with fail
      refine (fail_calls w5 S p r2 4 hr5).mono ?_
      generalize rFail r2 4 = r3 at *
      rintro e w6 ⟨rfl, h6, f6⟩
      replace hb0 := hb0.fr f6 (fun h => by have := HSd _ h; omega)
      replace hro := hro.fr f6 (fun ad e _ _ h => by have := hcap.2.2 ad e; have := (HSd _ h).2; omega)
      replace f0 := f0.trans f6 (fun i hi h => by have := HSd _ h; omega)
      clear f6 hr5
      obtain ⟨x0, x1, xf⟩ := BlkAt.c2 hb0
      have hE := endRd_calls w6 S p r3 h6
      by_cases h0 : rEnd r3 = 0
      · rw [if_pos h0] at HV
        rw [h0] at hE
        have FF := f0.trans ((fr_set1 w6 w.heap.size 0 (.int .i64 k)).then' (fr_set1 _ w.heap.size 1 (.slice A1 n1 c1'))) (fun i hi h => by unfold eqB at h; omega)
        have hro' := (hro.fr (fr_set1 w6 w.heap.size 0 (.int .i64 k)) (fun ad e _ _ h => by have := hcap.2.2 ad e; unfold eqB at h; omega)).fr (fr_set1 _ w.heap.size 1 (.slice A1 n1 c1')) (fun ad e _ _ h => by have := hcap.2.2 ad e; unfold eqB at h; omega)
        clear h0
        go_wp2_with fail
        refine hE.mono ?_
        rintro e w9 ⟨rfl, rfl⟩
        go_wp2_with fail
        have hr := hr.out
        exact bodyPost_ret (v := .tuple #[.agg #[.int .i64 k, .slice A1 n1 c1'], .int .i64 0]) (by simp [results, hr, go_sem, x0, x1]) rfl ⟨A1, n1, c1', by rw [HV.out] <;> rfl, by rw [HV.out]; exact HN1, by rw [HV.out]; exact hro', fun ad e => by have := hcap.2.2 ad e; omega, hcap.1, hcap.2.1, hnil, FF⟩
      · rw [if_neg h0] at HV
        generalize rEnd r3 = re at *
        have t1 : ((re : Int) != 0) = true := by rw [bne_iff_ne]; omega
        have FF := f0.trans ((fr_set1 w6 w.heap.size 0 (.int .i64 0)).then' (fr_set1 _ w.heap.size 1 (.slice none 0 0))) (fun i hi h => by unfold eqB at h; omega)
        clear h0
        go_wp2_with fail
        refine hE.mono ?_
        rintro e w9 ⟨rfl, rfl⟩
        go_wp2_with fail
        have hr := hr.out
        exact bodyPost_ret (v := .tuple #[.agg #[.int .i64 0, .slice none 0 0], .int .i64 re]) (by simp [results, hr, go_sem, x0, x1]) rfl ⟨none, 0, 0, by rw [HV.out] <;> rfl, by rw [HV.out]; exact rfl, RowAt.nil _ _ |> (by rw [HV.out]; exact ·), fun ad e => (by cases e), Nat.le_refl _, by decide, fun _ => ⟨rfl, rfl⟩, FF⟩
    · rw [if_neg (fun h => hb ⟨HC1.out.2 h.1, HC2.out.2 h.2⟩)] at H3
      rw [H3.out] at HV
      clear H3
      obtain ⟨c3, hc3⟩ : ∃ c, (c1 && c2) = c := ⟨_, rfl⟩
      have hb' : c1 = false ∨ c1 = true ∧ c2 = false := by
        cases c1
        · exact Or.inl rfl
        · cases c2
          · exact Or.inr ⟨rfl, rfl⟩
          · exact absurd ⟨rfl, rfl⟩ hb
      clear hb hc3
      rcases hb' with rfl | ⟨rfl, rfl⟩
      all_goals
        obtain ⟨x0, x1, xf⟩ := BlkAt.c2 hb0
        have hE := endRd_calls w5 S p r2 hr5
        by_cases h0 : rEnd r2 = 0
        · rw [if_pos h0] at HV
          rw [h0] at hE
          have FF := f0.trans ((fr_set1 w5 w.heap.size 0 (.int .i64 k)).then' (fr_set1 _ w.heap.size 1 (.slice A1 n1 c1'))) (fun i hi h => by unfold eqB at h; omega)
          have hro' := (hro.fr (fr_set1 w5 w.heap.size 0 (.int .i64 k)) (fun ad e _ _ h => by have := hcap.2.2 ad e; unfold eqB at h; omega)).fr (fr_set1 _ w.heap.size 1 (.slice A1 n1 c1')) (fun ad e _ _ h => by have := hcap.2.2 ad e; unfold eqB at h; omega)
          clear h0
          go_wp2_with fail
          refine hE.mono ?_
          rintro e w9 ⟨rfl, rfl⟩
          go_wp2_with fail
          have hr := hr.out
          exact bodyPost_ret (v := .tuple #[.agg #[.int .i64 k, .slice A1 n1 c1'], .int .i64 0]) (by simp [results, hr, go_sem, x0, x1]) rfl ⟨A1, n1, c1', by rw [HV.out] <;> rfl, by rw [HV.out]; exact HN1, by rw [HV.out]; exact hro', fun ad e => by have := hcap.2.2 ad e; omega, hcap.1, hcap.2.1, hnil, FF⟩
        · rw [if_neg h0] at HV
          generalize rEnd r2 = re at *
          have t1 : ((re : Int) != 0) = true := by rw [bne_iff_ne]; omega
          have FF := f0.trans ((fr_set1 w5 w.heap.size 0 (.int .i64 0)).then' (fr_set1 _ w.heap.size 1 (.slice none 0 0))) (fun i hi h => by unfold eqB at h; omega)
          clear h0
          go_wp2_with fail
          refine hE.mono ?_
          rintro e w9 ⟨rfl, rfl⟩
          go_wp2_with fail
          have hr := hr.out
          exact bodyPost_ret (v := .tuple #[.agg #[.int .i64 0, .slice none 0 0], .int .i64 re]) (by simp [results, hr, go_sem, x0, x1]) rfl ⟨none, 0, 0, by rw [HV.out] <;> rfl, by rw [HV.out]; exact rfl, RowAt.nil _ _ |> (by rw [HV.out]; exact ·), fun ad e => (by cases e), Nat.le_refl _, by decide, fun _ => ⟨rfl, rfl⟩, FF⟩
  · have d1 : decide ((18 : Int) < k) = false := decide_eq_false (by omega)
    rw [if_neg h18] at H1
    rw [H1.out] at HV H3
    clear H1 h18
    have HSd' : ∀ j, S j → j < w2.heap.size := fun j hj => by have := (HSd j hj).2; omega
    have hrow := rowRd_calls w2 S p r 400 400 h2 HSd' (by decide) (by decide) (by decide) (by decide)
    generalize rRow r 400 400 = q2 at *
    obtain ⟨r2, l2⟩ := q2
    simp only [] at *
    go_wp2_with fail
    refine hrow.mono ?_
    rintro e w5 ⟨A1, n1, c1', rfl, HN1, h5, hr5, f5⟩
    have hcap := own_cap h5
    have hnil := own_nil h5
    have hro := own_row h5
    replace hb0 := hb0.fr f5 (fun h => by have := HSd _ h; omega)
    replace f0 := f0.trans f5 (fun i hi h => by have := HSd _ h; omega)
    have hs5 := f5.size
    clear hrow h5 f5
    obtain ⟨c2, hc2⟩ : ∃ c, decide (0 < n1) = c := ⟨_, rfl⟩
    have HC2 : Hid (c2 = true ↔ 0 < l2.length) := by unfold Hid; rw [← hc2, decide_eq_true_eq, HN1.out]
    by_cases hb : c1 = true ∧ c2 = true
    · obtain ⟨rfl, rfl⟩ := hb
      rw [if_pos ⟨HC1.out.1 rfl, HC2.out.1 rfl⟩] at H3
      rw [H3.out] at HV
      clear H3
      go_wp2_with fail
      refine (fail_calls w5 S p r2 4 hr5).mono ?_
      generalize rFail r2 4 = r3 at *
      rintro e w6 ⟨rfl, h6, f6⟩
      replace hb0 := hb0.fr f6 (fun h => by have := HSd _ h; omega)
      replace hro := hro.fr f6 (fun ad e _ _ h => by have := hcap.2.2 ad e; have := (HSd _ h).2; omega)
      replace f0 := f0.trans f6 (fun i hi h => by have := HSd _ h; omega)
      clear f6 hr5
      obtain ⟨x0, x1, xf⟩ := BlkAt.c2 hb0
      have hE := endRd_calls w6 S p r3 h6
      by_cases h0 : rEnd r3 = 0
      · rw [if_pos h0] at HV
        rw [h0] at hE
        have FF := f0.trans ((fr_set1 w6 w.heap.size 0 (.int .i64 k)).then' (fr_set1 _ w.heap.size 1 (.slice A1 n1 c1'))) (fun i hi h => by unfold eqB at h; omega)
        have hro' := (hro.fr (fr_set1 w6 w.heap.size 0 (.int .i64 k)) (fun ad e _ _ h => by have := hcap.2.2 ad e; unfold eqB at h; omega)).fr (fr_set1 _ w.heap.size 1 (.slice A1 n1 c1')) (fun ad e _ _ h => by have := hcap.2.2 ad e; unfold eqB at h; omega)
        clear h0
        go_wp2_with fail
        refine hE.mono ?_
        rintro e w9 ⟨rfl, rfl⟩
        go_wp2_with fail
        have hr := hr.out
        exact bodyPost_ret (v := .tuple #[.agg #[.int .i64 k, .slice A1 n1 c1'], .int .i64 0]) (by simp [results, hr, go_sem, x0, x1]) rfl ⟨A1, n1, c1', by rw [HV.out] <;> rfl, by rw [HV.out]; exact HN1, by rw [HV.out]; exact hro', fun ad e => by have := hcap.2.2 ad e; omega, hcap.1, hcap.2.1, hnil, FF⟩
      · rw [if_neg h0] at HV
        generalize rEnd r3 = re at *
        have t1 : ((re : Int) != 0) = true := by rw [bne_iff_ne]; omega
        have FF := f0.trans ((fr_set1 w6 w.heap.size 0 (.int .i64 0)).then' (fr_set1 _ w.heap.size 1 (.slice none 0 0))) (fun i hi h => by unfold eqB at h; omega)
        clear h0
        go_wp2_with fail
        refine hE.mono ?_
        rintro e w9 ⟨rfl, rfl⟩
        go_wp2_with fail
        have hr := hr.out
        exact bodyPost_ret (v := .tuple #[.agg #[.int .i64 0, .slice none 0 0], .int .i64 re]) (by simp [results, hr, go_sem, x0, x1]) rfl ⟨none, 0, 0, by rw [HV.out] <;> rfl, by rw [HV.out]; exact rfl, RowAt.nil _ _ |> (by rw [HV.out]; exact ·), fun ad e => (by cases e), Nat.le_refl _, by decide, fun _ => ⟨rfl, rfl⟩, FF⟩
    · rw [if_neg (fun h => hb ⟨HC1.out.2 h.1, HC2.out.2 h.2⟩)] at H3
      rw [H3.out] at HV
      clear H3
      obtain ⟨c3, hc3⟩ : ∃ c, (c1 && c2) = c := ⟨_, rfl⟩
      have hb' : c1 = false ∨ c1 = true ∧ c2 = false := by
        cases c1
        · exact Or.inl rfl
        · cases c2
          · exact Or.inr ⟨rfl, rfl⟩
          · exact absurd ⟨rfl, rfl⟩ hb
      clear hb hc3
      rcases hb' with rfl | ⟨rfl, rfl⟩
      all_goals
        obtain ⟨x0, x1, xf⟩ := BlkAt.c2 hb0
        have hE := endRd_calls w5 S p r2 hr5
        by_cases h0 : rEnd r2 = 0
        · rw [if_pos h0] at HV
          rw [h0] at hE
          have FF := f0.trans ((fr_set1 w5 w.heap.size 0 (.int .i64 k)).then' (fr_set1 _ w.heap.size 1 (.slice A1 n1 c1'))) (fun i hi h => by unfold eqB at h; omega)
          have hro' := (hro.fr (fr_set1 w5 w.heap.size 0 (.int .i64 k)) (fun ad e _ _ h => by have := hcap.2.2 ad e; unfold eqB at h; omega)).fr (fr_set1 _ w.heap.size 1 (.slice A1 n1 c1')) (fun ad e _ _ h => by have := hcap.2.2 ad e; unfold eqB at h; omega)
          clear h0
          go_wp2_with fail
          refine hE.mono ?_
          rintro e w9 ⟨rfl, rfl⟩
          go_wp2_with fail
          have hr := hr.out
          exact bodyPost_ret (v := .tuple #[.agg #[.int .i64 k, .slice A1 n1 c1'], .int .i64 0]) (by simp [results, hr, go_sem, x0, x1]) rfl ⟨A1, n1, c1', by rw [HV.out] <;> rfl, by rw [HV.out]; exact HN1, by rw [HV.out]; exact hro', fun ad e => by have := hcap.2.2 ad e; omega, hcap.1, hcap.2.1, hnil, FF⟩
        · rw [if_neg h0] at HV
          generalize rEnd r2 = re at *
          have t1 : ((re : Int) != 0) = true := by rw [bne_iff_ne]; omega
          have FF := f0.trans ((fr_set1 w5 w.heap.size 0 (.int .i64 0)).then' (fr_set1 _ w.heap.size 1 (.slice none 0 0))) (fun i hi h => by unfold eqB at h; omega)
          clear h0
          go_wp2_with fail
          refine hE.mono ?_
          rintro e w9 ⟨rfl, rfl⟩
          go_wp2_with fail
          have hr := hr.out
          exact bodyPost_ret (v := .tuple #[.agg #[.int .i64 0, .slice none 0 0], .int .i64 re]) (by simp [results, hr, go_sem, x0, x1]) rfl ⟨none, 0, 0, by rw [HV.out] <;> rfl, by rw [HV.out]; exact rfl, RowAt.nil _ _ |> (by rw [HV.out]; exact ·), fun ad e => (by cases e), Nat.le_refl _, by decide, fun _ => ⟨rfl, rfl⟩, FF⟩
end Go.Proofs.Ytdngcheimohamaa
/- interrexref14.Put. -/
namespace Go.Proofs.Ytdngcheimohamaa
open Go.RowKit

def repR (e : Nat) (l : List ByteArray) : List UInt8 := leB 1 e ++ rowR (if e = 0 then l else [])
theorem rowR_length (ss : List ByteArray) : (rowR ss).length = 2 + sumSz ss := by unfold rowR; rw [List.length_append, leB_length, rowsR_length]
set_option maxRecDepth 100000 in
set_option maxHeartbeats 1600000 in
theorem opPutR0_calls (w : World) (e : Nat) (A : Option Addr) (n c : Nat) (l : List ByteArray) (he : e < 256) (hx : RowAt w A (strs l)) (HN : Hid (l.length = n)) (hsum : sumSz l ≤ 100000000000) (hn : n ≤ 1000000000000) (h0 : e = 0) :
    Calls Try.prog 81 #[.agg #[.int .i64 e, .slice A n c]] w (StrPost w (repR e l)) := by
  have t1 : ((e : Int) != 0) = false := by rw [bne_eq_false_iff_eq]; omega
  have HB : Hid (repR e l = leB 1 e ++ rowR l) := by unfold Hid repR; rw [if_pos h0]
  have hb0 : BlkAt (w.alloc (.cells #[.int .i64 e, .slice A n c] 30)) w.heap.size 30 #[.int .i64 e, .slice A n c] := BlkAt.new _ _ _
  have f0 : Fr noB w (w.alloc (.cells #[.int .i64 e, .slice A n c] 30)) := (Fr.refl noB w).alloc _
  have hwrap : IntKind.u64.wrap (e : Int) = e := by rw [IntKind.wrap_u64]; omega
  have hx0 : RowAt (w.alloc (.cells #[.int .i64 e, .slice A n c] 30)) A (strs l) := hx.fr0 f0
  have HE := hid he
  have hnum := fun W => numR_calls W e 1 (by omega) (by omega)
  have hcat : (mkS (leB 1 e)).size + (mkS (rowR l)).size ≤ 9223372036854775807 := by rw [mkS_size, mkS_size, leB_length, rowR_length]; omega
  clear h0 hx he
  go_enter Try.func81, Try.ntmps81
  go_wp2_with fail
  generalize (w.alloc (.cells #[.int .i64 e, .slice A n c] 30)) = wa at *
  apply wp_region_calm (R := Fr noB) (C := fun q W => Fr noB wa W ∧ BlkAt W (w.heap.size) 30 #[.int .i64 e, .slice A n c]) [false, false, false, false, false, false, false, false, false]
    [eqv _, eqv _, eqv _, eqv (.string (mkS (leB 1 e))), eqv _, eqv _, eqv (.string (mkS (rowR l))), eqv _, eqv _]
    (by kernel_rfl) (by kernel_rfl) (fun _ _ _ h1 h2 => h1.then' h2) ((Fr.refl _ _).drew) ⟨(Fr.refl _ _).drew, hb0⟩ (by kernel_rfl)
  · refine ⟨?_, ?_, ?_, ?_, ?_, ?_, ?_, ?_, ?_, trivial⟩
    · rw [if_neg (by decide)]; intro kq
      intro a W K hC hd hK
      have d1 : a.tmps[1]?.getD undef = .pointer (some ⟨w.heap.size, 0, none⟩) := hd 1 (by decide)
      refine wpOp_plain rfl rfl ?_
      obtain ⟨x0_0, x0_1, z0⟩ := BlkAt.c2 (hC.2)
      go_wp2_with fail
      exact hK _ _ (Fr.refl _ _) hC rfl
    · rw [if_neg (by decide)]; intro kq
      intro a W K hC hd hK
      have d7 : _ = _ := hd 7 (by decide)
      refine wpOp_plain rfl rfl ?_
      obtain ⟨x0_0, x0_1, z0⟩ := BlkAt.c2 (hC.2)
      go_wp2_with fail
      exact hK _ _ (Fr.refl _ _) hC rfl
    · rw [if_neg (by decide)]; intro kq
      intro a W K hC hd hK
      have d8 : _ = _ := hd 8 (by decide)
      refine wpOp_plain rfl rfl ?_
      go_wp2_with fail
      exact hK _ _ (Fr.refl _ _) hC rfl
    · rw [if_neg (by decide)]; intro kq
      intro a W K hC hd hK
      have d9 : _ = _ := hd 9 (by decide)
      refine wpOp_plain rfl rfl ?_
      obtain ⟨x0_0, x0_1, z0⟩ := BlkAt.c2 (hC.2)
      go_wp2_with fail
      refine (hnum W).mono ?_
      rintro e9 w9 ⟨rfl, f9⟩
      exact hK _ _ f9 ⟨hC.1.then' f9, hC.2.fr f9 id⟩ rfl
    · rw [if_neg (by decide)]; intro kq
      intro a W K hC hd hK
      have d1 : a.tmps[1]?.getD undef = .pointer (some ⟨w.heap.size, 0, none⟩) := hd 1 (by decide)
      refine wpOp_plain rfl rfl ?_
      obtain ⟨x0_0, x0_1, z0⟩ := BlkAt.c2 (hC.2)
      go_wp2_with fail
      exact hK _ _ (Fr.refl _ _) hC rfl
    · rw [if_neg (by decide)]; intro kq
      intro a W K hC hd hK
      have d11 : _ = _ := hd 11 (by decide)
      refine wpOp_plain rfl rfl ?_
      obtain ⟨x0_0, x0_1, z0⟩ := BlkAt.c2 (hC.2)
      go_wp2_with fail
      exact hK _ _ (Fr.refl _ _) hC rfl
    · rw [if_neg (by decide)]; intro kq
      intro a W K hC hd hK
      have d12 : _ = _ := hd 12 (by decide)
      refine wpOp_plain rfl rfl ?_
      obtain ⟨x0_0, x0_1, z0⟩ := BlkAt.c2 (hC.2)
      go_wp2_with fail
      refine (rowR_calls W A n c l (hx0.fr0 hC.1) HN (by omega) (by omega)).mono ?_
      rintro e9 w9 ⟨rfl, f9⟩
      exact hK _ _ f9 ⟨hC.1.then' f9, hC.2.fr f9 id⟩ rfl
    · rw [if_neg (by decide)]; intro kq
      intro a W K hC hd hK
      have d10 : a.tmps[10]?.getD undef = .string (mkS (leB 1 e)) := hd 10 (by decide)
      have d13 : a.tmps[13]?.getD undef = .string (mkS (rowR l)) := hd 13 (by decide)
      refine wpOp_plain rfl rfl ?_
      go_wp2_with fail
      exact hK _ _ (Fr.refl _ _) hC rfl
    · rw [if_neg (by decide)]; intro kq
      exact calm_mv 14 rfl rfl (Or.inr rfl) (Fr.refl _) (by decide) fun v w hd => hd
  · intro vs w8 fw8 cw8 hV
    have v7 : vs 0 = _ := hV 0 _ _ rfl rfl (by decide)
    have v8 : vs 1 = _ := hV 1 _ _ rfl rfl (by decide)
    have v9 : vs 2 = _ := hV 2 _ _ rfl rfl (by decide)
    have v10 : vs 3 = .string (mkS (leB 1 e)) := hV 3 _ _ rfl rfl (by decide)
    have v11 : vs 4 = _ := hV 4 _ _ rfl rfl (by decide)
    have v12 : vs 5 = _ := hV 5 _ _ rfl rfl (by decide)
    have v13 : vs 6 = .string (mkS (rowR l)) := hV 6 _ _ rfl rfl (by decide)
    have v14 : vs 7 = _ := hV 7 _ _ rfl rfl (by decide)
    have v2 : vs 8 = _ := hV 8 _ _ rfl rfl (by decide)
    clear hV
    replace hb0 : BlkAt w8 (w.heap.size) 30 #[.int .i64 e, .slice A n c] := cw8.2
    replace f0 := f0.trans fw8 (fun i hi h => h.elim)
    clear cw8
    simp only [putL, Act.put, Nat.reduceAdd, List.setIfInBounds_toArray, List.set_cons_zero, List.set_cons_succ, v7, v8, v9, v10, v11, v12, v13, v14, v2]
    go_wp2_with fail
    go_ret
    exact ⟨by rw [HB.out, ← mkS_append]; rfl, f0⟩
set_option maxRecDepth 100000 in
set_option maxHeartbeats 1600000 in
theorem opPutR1_calls (w : World) (e : Nat) (A : Option Addr) (n c : Nat) (l : List ByteArray) (he : e < 256) (hx : RowAt w A (strs l)) (HN : Hid (l.length = n)) (hsum : sumSz l ≤ 100000000000) (hn : n ≤ 1000000000000) (h0 : e ≠ 0) :
    Calls Try.prog 81 #[.agg #[.int .i64 e, .slice A n c]] w (StrPost w (repR e l)) := by
  have t1 : ((e : Int) != 0) = true := by rw [bne_iff_ne]; omega
  have HB : Hid (repR e l = leB 1 e ++ rowR []) := by unfold Hid repR; rw [if_neg h0]
  have hb0 : BlkAt (w.alloc (.cells #[.int .i64 e, .slice none 0 0] 30)) w.heap.size 30 #[.int .i64 e, .slice none 0 0] := BlkAt.new _ _ _
  have f0 : Fr noB w (w.alloc (.cells #[.int .i64 e, .slice none 0 0] 30)) := (Fr.refl noB w).alloc _
  have hwrap : IntKind.u64.wrap (e : Int) = e := by rw [IntKind.wrap_u64]; omega
  have hx0 : RowAt (w.alloc (.cells #[.int .i64 e, .slice none 0 0] 30)) none (strs ([] : List ByteArray)) := RowAt.nil _ _
  have HE := hid he
  have hnum := fun W => numR_calls W e 1 (by omega) (by omega)
  have hcat : (mkS (leB 1 e)).size + (mkS (rowR [])).size ≤ 9223372036854775807 := by rw [mkS_size, mkS_size, leB_length, rowR_length]; simp [sumSz]
  clear h0 hx he
  go_enter Try.func81, Try.ntmps81
  go_wp2_with fail
  generalize (w.alloc (.cells #[.int .i64 e, .slice none 0 0] 30)) = wa at *
  apply wp_region_calm (R := Fr noB) (C := fun q W => Fr noB wa W ∧ BlkAt W (w.heap.size) 30 #[.int .i64 e, .slice none 0 0]) [false, false, false, false, false, false, false, false, false]
    [eqv _, eqv _, eqv _, eqv (.string (mkS (leB 1 e))), eqv _, eqv _, eqv (.string (mkS (rowR []))), eqv _, eqv _]
    (by kernel_rfl) (by kernel_rfl) (fun _ _ _ h1 h2 => h1.then' h2) ((Fr.refl _ _).drew) ⟨(Fr.refl _ _).drew, hb0⟩ (by kernel_rfl)
  · refine ⟨?_, ?_, ?_, ?_, ?_, ?_, ?_, ?_, ?_, trivial⟩
    · rw [if_neg (by decide)]; intro kq
      intro a W K hC hd hK
      have d1 : a.tmps[1]?.getD undef = .pointer (some ⟨w.heap.size, 0, none⟩) := hd 1 (by decide)
      refine wpOp_plain rfl rfl ?_
      obtain ⟨x0_0, x0_1, z0⟩ := BlkAt.c2 (hC.2)
      go_wp2_with fail
      exact hK _ _ (Fr.refl _ _) hC rfl
    · rw [if_neg (by decide)]; intro kq
      intro a W K hC hd hK
      have d7 : _ = _ := hd 7 (by decide)
      refine wpOp_plain rfl rfl ?_
      obtain ⟨x0_0, x0_1, z0⟩ := BlkAt.c2 (hC.2)
      go_wp2_with fail
      exact hK _ _ (Fr.refl _ _) hC rfl
    · rw [if_neg (by decide)]; intro kq
      intro a W K hC hd hK
      have d8 : _ = _ := hd 8 (by decide)
      refine wpOp_plain rfl rfl ?_
      go_wp2_with fail
      exact hK _ _ (Fr.refl _ _) hC rfl
    · rw [if_neg (by decide)]; intro kq
      intro a W K hC hd hK
      have d9 : _ = _ := hd 9 (by decide)
      refine wpOp_plain rfl rfl ?_
      obtain ⟨x0_0, x0_1, z0⟩ := BlkAt.c2 (hC.2)
      go_wp2_with fail
      refine (hnum W).mono ?_
      rintro e9 w9 ⟨rfl, f9⟩
      exact hK _ _ f9 ⟨hC.1.then' f9, hC.2.fr f9 id⟩ rfl
    · rw [if_neg (by decide)]; intro kq
      intro a W K hC hd hK
      have d1 : a.tmps[1]?.getD undef = .pointer (some ⟨w.heap.size, 0, none⟩) := hd 1 (by decide)
      refine wpOp_plain rfl rfl ?_
      obtain ⟨x0_0, x0_1, z0⟩ := BlkAt.c2 (hC.2)
      go_wp2_with fail
      exact hK _ _ (Fr.refl _ _) hC rfl
    · rw [if_neg (by decide)]; intro kq
      intro a W K hC hd hK
      have d11 : _ = _ := hd 11 (by decide)
      refine wpOp_plain rfl rfl ?_
      obtain ⟨x0_0, x0_1, z0⟩ := BlkAt.c2 (hC.2)
      go_wp2_with fail
      exact hK _ _ (Fr.refl _ _) hC rfl
    · rw [if_neg (by decide)]; intro kq
      intro a W K hC hd hK
      have d12 : _ = _ := hd 12 (by decide)
      refine wpOp_plain rfl rfl ?_
      obtain ⟨x0_0, x0_1, z0⟩ := BlkAt.c2 (hC.2)
      go_wp2_with fail
      refine (rowR_calls W none 0 0 [] (RowAt.nil _ _) rfl (by simp [sumSz]) (by omega)).mono ?_
      rintro e9 w9 ⟨rfl, f9⟩
      exact hK _ _ f9 ⟨hC.1.then' f9, hC.2.fr f9 id⟩ rfl
    · rw [if_neg (by decide)]; intro kq
      intro a W K hC hd hK
      have d10 : a.tmps[10]?.getD undef = .string (mkS (leB 1 e)) := hd 10 (by decide)
      have d13 : a.tmps[13]?.getD undef = .string (mkS (rowR [])) := hd 13 (by decide)
      refine wpOp_plain rfl rfl ?_
      go_wp2_with fail
      exact hK _ _ (Fr.refl _ _) hC rfl
    · rw [if_neg (by decide)]; intro kq
      exact calm_mv 14 rfl rfl (Or.inr rfl) (Fr.refl _) (by decide) fun v w hd => hd
  · intro vs w8 fw8 cw8 hV
    have v7 : vs 0 = _ := hV 0 _ _ rfl rfl (by decide)
    have v8 : vs 1 = _ := hV 1 _ _ rfl rfl (by decide)
    have v9 : vs 2 = _ := hV 2 _ _ rfl rfl (by decide)
    have v10 : vs 3 = .string (mkS (leB 1 e)) := hV 3 _ _ rfl rfl (by decide)
    have v11 : vs 4 = _ := hV 4 _ _ rfl rfl (by decide)
    have v12 : vs 5 = _ := hV 5 _ _ rfl rfl (by decide)
    have v13 : vs 6 = .string (mkS (rowR [])) := hV 6 _ _ rfl rfl (by decide)
    have v14 : vs 7 = _ := hV 7 _ _ rfl rfl (by decide)
    have v2 : vs 8 = _ := hV 8 _ _ rfl rfl (by decide)
    clear hV
    replace hb0 : BlkAt w8 (w.heap.size) 30 #[.int .i64 e, .slice none 0 0] := cw8.2
    replace f0 := f0.trans fw8 (fun i hi h => h.elim)
    clear cw8
    simp only [putL, Act.put, Nat.reduceAdd, List.setIfInBounds_toArray, List.set_cons_zero, List.set_cons_succ, v7, v8, v9, v10, v11, v12, v13, v14, v2]
    go_wp2_with fail
    go_ret
    exact ⟨by rw [HB.out, ← mkS_append]; rfl, f0⟩
theorem opPutR_calls (w : World) (e : Nat) (A : Option Addr) (n c : Nat) (l : List ByteArray) (he : e < 256) (hx : RowAt w A (strs l)) (HN : Hid (l.length = n)) (hsum : sumSz l ≤ 100000000000) (hn : n ≤ 1000000000000) :
    Calls Try.prog 81 #[.agg #[.int .i64 e, .slice A n c]] w (StrPost w (repR e l)) := by
  by_cases h0 : e = 0
  · exact opPutR0_calls w e A n c l he hx HN hsum hn h0
  · exact opPutR1_calls w e A n c l he hx HN hsum hn h0
end Go.Proofs.Ytdngcheimohamaa
/- interrexref14.Get. -/
namespace Go.Proofs.Ytdngcheimohamaa
open Go.RowKit

def RepRPost (w : World) (q : (Nat × List ByteArray) × Nat) (e : Ending) (w' : World) : Prop :=
  ∃ A n c, e = .returned (.tuple #[.agg #[.int .i64 (q.1.1 : Nat), .slice A n c], .int .i64 (q.2 : Nat)]) ∧ Hid (q.1.2.length = n) ∧ RowAt w' A (strs q.1.2) ∧ (∀ ad, A = some ad → w.heap.size ≤ ad.block) ∧ Fr noB w w'
theorem repGet_18 {bs : List UInt8} (h : 18 < (rNum ⟨bs, 0⟩ 1).2) : repGet bs = ((0, []), 4) := by
  have h1 : repR1 bs = ⟨[], 4⟩ := by
    unfold repR1; rw [if_pos h]
    unfold rFail; rw [if_pos ⟨rNum_pos (fun h => absurd rfl h) (by omega), by decide⟩]
  have h2 : rRow ⟨[], 4⟩ 400 400 = (⟨[], 4⟩, []) := rfl
  have h3 : repR3 bs = ⟨[], 4⟩ := by
    unfold repR3; rw [h1, h2, if_neg (by simp)]
  unfold repGet
  rw [h3, if_neg (by decide)]; rfl
theorem rRow_inv {r : Rd} (hi : r.inv) (m l : Int) : (rRow r m l).1.inv := by
  have : (rCount r m).1.inv := by
    unfold rCount; split
    · exact rFail_inv _ (rNum_inv 2 hi)
    · exact rNum_inv 2 hi
  exact rTexts_inv this l _
theorem rRow_left (r : Rd) (m l : Int) : (rRow r m l).1.bs.length ≤ r.bs.length := Nat.le_trans (rTexts_left _ _ _) (rCount_left r m)
theorem fr_s2 (w : World) (b : Nat) (u0 u1 : Value) : Fr (eqB b) w ((w.setCell ⟨b, 0, none⟩ u0).setCell ⟨b, 1, none⟩ u1) := (fr_set1 w b 0 u0).then' (fr_set1 _ b 1 u1)

end Go.Proofs.Ytdngcheimohamaa
/- interrexref14: parts, Text, Check. -/
namespace Go.Proofs.Ytdngcheimohamaa
open Go.RowKit

def partsL : List Int := [2, 1, 2, 1, 1, 2, 1, 1, 2, 1, 1, 2, 2, 1, 1, 0, -1]
def partsV (k : Nat) : Int := partsL.getD k 0
def textO (o : OpV) : List UInt8 := leB 1 o.k ++ (if 1 ≤ partsV o.k then textR o.a else []) ++ (if partsV o.k = 2 then textR o.b else []) ++ (if partsV o.k < 0 then leB 1 o.n ++ leB 1 o.r else [])
theorem byteStr (w : World) (y : Nat) (hy : y < 256) : (convert 46 9 (.slice (some ⟨w.heap.size, 0, none⟩) 1 1)).run Try.prog (w.alloc (.cells #[.int .u8 y] 5)) =
    .ok (.string (mkS (leB 1 y))) (w.alloc (.cells #[.int .u8 y] 5)) := by
  have h := Try.oneStr w y
  rw [show ((y : Int) % 256) = y from by omega] at h
  exact h
theorem byteStr2 (w : World) (x y : Nat) (hx : x < 256) (hy : y < 256) : (convert 46 9 (.slice (some ⟨w.heap.size, 0, none⟩) 2 2)).run Try.prog (w.alloc (.cells #[.int .u8 x, .int .u8 y] 5)) =
    .ok (.string (mkS (leB 1 x ++ leB 1 y))) (w.alloc (.cells #[.int .u8 x, .int .u8 y] 5)) := by
  refine Try.toStr (l := leB 1 x ++ leB 1 y) ?_ rfl 2
  have h := new_row w #[.int .u8 x, .int .u8 y] 5
  have e : bcells (leB 1 x ++ leB 1 y) = (#[Value.int .u8 x, .int .u8 y] : Array Value).toList := by
    simp [leB, bcells]
    omega
  rw [e]; exact h
theorem textO_length (o : OpV) : (textO o).length ≤ 7 + o.a.size + o.b.size := by
  unfold textO
  simp only [List.length_append, leB_length]
  split <;> split <;> split <;> simp [textR_length, leB_length] <;> omega

end Go.Proofs.Ytdngcheimohamaa
/- interrexref14.Check. -/
namespace Go.Proofs.Ytdngcheimohamaa
open Go.RowKit

def badR (o : OpV) : Bool := (decide (partsV o.k < 1) && decide (o.a ≠ ⟨#[]⟩)) || (decide (partsV o.k < 2) && decide (o.b ≠ ⟨#[]⟩)) || (decide (0 ≤ partsV o.k) && (decide (o.n ≠ 0) || decide (o.r ≠ 0)))
def bad2R (o : OpV) : Bool := decide (partsV o.k < 0) && (decide (6 < o.n) || decide (o.r < 1) || decide (3 < o.r))
def checkR (o : OpV) : Nat := if 17 ≤ o.k then 4 else if badR o = true then 4 else if bad2R o = true then 4 else if 64 < o.a.size ∨ 64 < o.b.size ∨ 64 < (textO o).length then 3 else 0
theorem toList_nil (s : ByteArray) : s.toList = [] ↔ s = ⟨#[]⟩ := by
  constructor
  · intro h; rw [← mkS_of s, ← ByteArray.toList_eq, h]; rfl
  · rintro rfl; exact mkS_toList []
theorem IntPost.mk' {w w' : World} {i j : Int} (h : i = j) (f : Fr noB w w') : IntPost w j (.returned (.int .i64 i)) w' := ⟨by rw [h], f⟩
end Go.Proofs.Ytdngcheimohamaa
/- op.Read. -/
namespace Go.Proofs.Ytdngcheimohamaa
open Go.RowKit

def zeroOp : OpV := ⟨0, ⟨#[]⟩, ⟨#[]⟩, 0, 0⟩
def opRd (bs : List UInt8) : Rd × Nat := rNum ⟨bs, 0⟩ 1
def opIn (bs : List UInt8) : OpV × Rd := if (opRd bs).1.e = 0 then (signsL.getD (opRd bs).2 []).foldl rdSign (⟨(opRd bs).2, ⟨#[]⟩, ⟨#[]⟩, 0, 0⟩, (opRd bs).1) else (⟨(opRd bs).2, ⟨#[]⟩, ⟨#[]⟩, 0, 0⟩, (opRd bs).1)
/-- op.Read, as a function. -/
def opRead (bs : List UInt8) : OpV × Nat :=
  if 64 < bs.length then (zeroOp, 3) else if 17 ≤ (opRd bs).2 then (zeroOp, 4) else if rEnd (opIn bs).2 = 0 then ((opIn bs).1, 0) else (zeroOp, rEnd (opIn bs).2)
def OpEPost (w : World) (q : OpV × Nat) (e : Ending) (w' : World) : Prop := e = .returned (.tuple #[q.1.v, .int .i64 (q.2 : Nat)]) ∧ Fr noB w w'
theorem rdSigns_snoc (s : OpV × Rd) {z : List UInt8} {k : Nat} {c : UInt8} (hc : z[k]? = some c) : (z.take (k + 1)).foldl rdSign s = rdSign ((z.take k).foldl rdSign s) c := by
  rw [take_snoc' hc, List.foldl_append]; rfl
theorem fr_set5 (w : World) (b : Nat) (u0 u1 u2 u3 u4 : Value) : Fr (eqB b) w (((((w.setCell ⟨b, 0, none⟩ u0).setCell ⟨b, 1, none⟩ u1).setCell ⟨b, 2, none⟩ u2).setCell ⟨b, 3, none⟩ u3).setCell ⟨b, 4, none⟩ u4) :=
  ((((fr_set1 w b 0 u0).then' (fr_set1 _ b 1 u1)).then' (fr_set1 _ b 2 u2)).then' (fr_set1 _ b 3 u3)).then' (fr_set1 _ b 4 u4)

end Go.Proofs.Ytdngcheimohamaa
/- interrexref14.Read. -/
namespace Go.Proofs.Ytdngcheimohamaa
open Go.RowKit

theorem opRead_long {bs : List UInt8} (h : 64 < bs.length) : opRead bs = (zeroOp, 3) := by unfold opRead; rw [if_pos h]
theorem opRead_nil : opRead [] = (zeroOp, 2) := by
  have h : opRd [] = (⟨[], 2⟩, 0) := rfl
  have h2 : opIn [] = (zeroOp, ⟨[], 2⟩) := by unfold opIn; rw [h]; rfl
  unfold opRead
  rw [h, h2]; rfl
theorem opRd_cons (c : UInt8) (t : List UInt8) : opRd (c :: t) = (⟨t, 0⟩, c.toNat) := by
  unfold opRd rNum rTake
  simp [leV]
theorem opRead_kind {c : UInt8} {t : List UInt8} (h : ¬ 64 < (c :: t).length) (h2 : 17 ≤ c.toNat) : opRead (c :: t) = (zeroOp, 4) := by
  unfold opRead; rw [if_neg h, opRd_cons, if_pos h2]
theorem opRead_cons {c : UInt8} {t : List UInt8} {z : List UInt8} (h : ¬ 64 < (c :: t).length) (hz : signsL[c.toNat]? = some z) :
    opRead (c :: t) = if rEnd (z.foldl rdSign (⟨c.toNat, ⟨#[]⟩, ⟨#[]⟩, 0, 0⟩, ⟨t, 0⟩)).2 = 0 then ((z.foldl rdSign (⟨c.toNat, ⟨#[]⟩, ⟨#[]⟩, 0, 0⟩, ⟨t, 0⟩)).1, 0) else (zeroOp, rEnd (z.foldl rdSign (⟨c.toNat, ⟨#[]⟩, ⟨#[]⟩, 0, 0⟩, ⟨t, 0⟩)).2) := by
  have h2 : ¬ 17 ≤ c.toNat := by have := (List.getElem?_eq_some_iff.1 hz).1; simp [signsL] at this; omega
  unfold opRead
  rw [if_neg h, opRd_cons, if_neg h2]
  have : opIn (c :: t) = z.foldl rdSign (⟨c.toNat, ⟨#[]⟩, ⟨#[]⟩, 0, 0⟩, ⟨t, 0⟩) := by
    unfold opIn; rw [opRd_cons, if_pos rfl, List.getD_eq_getElem?_getD, hz]; rfl
  rw [this]
theorem parts_signs {k : Nat} {z : List UInt8} (hz : signsL[k]? = some z) : (partsV k = 2 ∧ z = [97, 98]) ∨ (partsV k = 1 ∧ z = [97]) ∨ (partsV k = 0 ∧ z = []) ∨ (partsV k = -1 ∧ z = [110, 114]) := by
  have hk : k < 17 := (List.getElem?_eq_some_iff.1 hz).1
  have : ∀ k : Fin 17, let z := signsL.getD k.val []; let P := partsV k.val; (P = 2 ∧ z = [97, 98]) ∨ (P = 1 ∧ z = [97]) ∨ (P = 0 ∧ z = []) ∨ (P = -1 ∧ z = [110, 114]) := by decide
  have h := this ⟨k, hk⟩
  simp only [List.getD_eq_getElem?_getD, hz, Option.getD_some] at h
  exact h

theorem right114_false {k : Nat} {a b : ByteArray} {n r : Nat} (h : ¬ (1 ≤ r ∧ r ≤ 3)) : rightV ⟨k, a, b, n, r⟩ 114 = false := by
  unfold rightV; rw [if_neg (by decide), if_pos rfl]
  simp only [Bool.and_eq_false_iff, decide_eq_false_iff_not]
  omega
end Go.Proofs.Ytdngcheimohamaa
/- Operations: what is written is read, and what is read is written (no program). -/
namespace Go.Proofs.Ytdngcheimohamaa
open Go.RowKit

/-! ### readers, turned round -/
theorem leB_leV (xs : List UInt8) : leB xs.length (leV xs) = xs := by
  induction xs with
  | nil => rfl
  | cons b xs ih =>
    simp only [List.length_cons, leB, leV]
    have h1 : UInt8.ofNat (b.toNat + 256 * leV xs) = b := by
      apply UInt8.toNat_inj.1
      simp
    have h2 : (b.toNat + 256 * leV xs) / 256 = leV xs := by have := b.toNat_lt; omega
    rw [h1, h2, ih]
theorem rFail_e (r : Rd) {k : Nat} (hk : k ≠ 0) : (rFail r k).e ≠ 0 := by
  unfold rFail
  split
  · exact hk
  · rename_i h; intro h2; exact h ⟨h2, hk⟩
theorem rTake_ok {r r1 : Rd} {n : Nat} {x : List UInt8} (h : rTake r n = (r1, x)) (h0 : r1.e = 0) : r.e = 0 ∧ r.bs = x ++ r1.bs ∧ x.length = n := by
  unfold rTake at h
  split at h
  · cases h; exact absurd h0 (rFail_e r (by decide))
  · cases h; exact ⟨h0, (List.take_append_drop n r.bs).symm, by simp only [List.length_take]; omega⟩
theorem rNum_ok {r r1 : Rd} {n v : Nat} (h : rNum r n = (r1, v)) (h0 : r1.e = 0) : r.e = 0 ∧ r.bs = leB n v ++ r1.bs ∧ v < 256 ^ n := by
  have hl := rNum_lt r n
  unfold rNum at h
  cases hq : rTake r n with
  | mk q x =>
    rw [hq] at h
    cases h
    obtain ⟨h1, h2, h3⟩ := rTake_ok hq h0
    refine ⟨h1, ?_, by rw [← h3]; exact leV_lt x⟩
    rw [← h3, leB_leV]; exact h2
theorem rCount_ok {r r1 : Rd} {most : Int} {v : Nat} (h : rCount r most = (r1, v)) (h0 : r1.e = 0) : r.e = 0 ∧ r.bs = leB 2 v ++ r1.bs ∧ v < 65536 ∧ (v : Int) ≤ max 0 most := by
  unfold rCount at h
  split at h
  · cases h; exact absurd h0 (rFail_e _ (by decide))
  · rename_i hn
    obtain ⟨h1, h2, h3⟩ := rNum_ok h h0
    refine ⟨h1, h2, h3, ?_⟩
    rw [h] at hn; simp only [] at hn; omega
theorem rText_ok {r r1 : Rd} {most : Int} {x : List UInt8} (h : rText r most = (r1, x)) (h0 : r1.e = 0) : r.e = 0 ∧ r.bs = textB (mkS x) ++ r1.bs ∧ x.length < 65536 ∧ (x.length : Int) ≤ max 0 most := by
  unfold rText at h
  cases hq : rCount r most with
  | mk q v =>
    rw [hq] at h
    obtain ⟨h1, h2, h3⟩ := rTake_ok h h0
    obtain ⟨g1, g2, g3, g4⟩ := rCount_ok hq h1
    simp only [] at h2 h3
    refine ⟨g1, ?_, by omega, by rw [h3]; exact g4⟩
    rw [g2, h2]
    unfold textB
    rw [mkS_size, mkS_data, h3, Nat.min_eq_left (by omega), List.take_of_length_le (by omega), List.append_assoc]
theorem rEnd_zero {r : Rd} (h : rEnd r = 0) : r.e = 0 ∧ r.bs = [] := by
  unfold rEnd at h
  split at h
  · cases h
  · rename_i h2
    refine ⟨h, ?_⟩
    rcases hb : r.bs with _ | ⟨b, l⟩
    · rfl
    · exact absurd ⟨h, by rw [hb]; simp⟩ h2
theorem rdSign_ok {o o' : OpV} {r r' : Rd} {c : UInt8} (h : rdSign (o, r) c = (o', r')) (h0 : r'.e = 0) : rdPart o r c = (o', r') ∧ rightV o' c = true := by
  unfold rdSign at h
  cases hq : rdPart o r c with
  | mk p q =>
    rw [hq] at h
    simp only [] at h
    cases hr : rightV p c
    · by_cases he : q.e = 0
      · rw [if_pos ⟨he, hr⟩] at h; cases h; exact absurd h0 (rFail_e _ (by decide))
      · rw [if_neg (fun h => he h.1)] at h; cases h; exact absurd h0 he
    · rw [if_neg (by rw [hr]; simp)] at h; cases h; exact ⟨rfl, hr⟩
/-! ### texts and forms -/
theorem zOf_of {k : Nat} {o : OpV} {z : List UInt8} (hk : o.k = k) (hz : signsL[k]? = some z) : zOf o = z := by
  unfold zOf; rw [hk, List.getD_eq_getElem?_getD, hz]; rfl
theorem textO_eq {o : OpV} (hk : o.k < 17) (ha : o.a.size ≤ 65535) (hb : o.b.size ≤ 65535) : textO o = writeB o (zOf o) := by
  have hz := zOf_get hk
  unfold textO writeB
  rw [textR_eq ha, textR_eq hb]
  rcases parts_signs hz with ⟨h1, h2⟩ | ⟨h1, h2⟩ | ⟨h1, h2⟩ | ⟨h1, h2⟩
  · rw [h1, h2, if_pos (by decide), if_pos rfl, if_neg (by decide)]
    simp [signB]
  · rw [h1, h2, if_pos (by decide), if_neg (by decide), if_neg (by decide)]
    simp [signB]
  · rw [h1, h2, if_neg (by decide), if_neg (by decide), if_neg (by decide)]
    simp
  · rw [h1, h2, if_neg (by decide), if_neg (by decide), if_pos (by decide)]
    simp [signB]
open Classical in
theorem bareB_iff {o : OpV} (hk : o.k < 17) : bareB o = true ↔ badR o = false := by
  have hz := zOf_get hk
  unfold bareB badR
  rw [decide_eq_true_eq, OpV.eq_iff]
  rcases parts_signs hz with ⟨h1, h2⟩ | ⟨h1, h2⟩ | ⟨h1, h2⟩ | ⟨h1, h2⟩
  all_goals
    rw [h1, h2]
    simp [bareFrom, setS, and_assoc]
theorem right_iff {o : OpV} (hk : o.k < 17) : (zOf o).all (rightV o) = true ↔ bad2R o = false := by
  have hz := zOf_get hk
  unfold bad2R
  rcases parts_signs hz with ⟨h1, h2⟩ | ⟨h1, h2⟩ | ⟨h1, h2⟩ | ⟨h1, h2⟩
  all_goals
    rw [h1, h2]
    simp [rightV]
  omega
theorem bare_len {o : OpV} (hk : o.k < 17) (hb : bareB o = true) : o.a.size + o.b.size ≤ 64 ∨ 64 < (textO o).length := by
  have hz := zOf_get hk
  rw [bareB_iff hk] at hb
  unfold badR at hb
  unfold textO
  have e0 : (⟨#[]⟩ : ByteArray).size = 0 := rfl
  rcases parts_signs hz with ⟨h1, h2⟩ | ⟨h1, h2⟩ | ⟨h1, h2⟩ | ⟨h1, h2⟩
  all_goals
    rw [h1] at hb ⊢
    simp at hb ⊢
    simp only [List.length_append, textR_length, leB_length]
  · omega
  · rw [hb.1, e0]; omega
  · rw [hb.1.1, hb.1.2, e0]; omega
  · rw [hb.1, hb.2, e0]; omega
theorem check_eq (o : OpV) : checkR o = checkV o := by
  unfold checkR checkV
  by_cases h17 : 17 ≤ o.k
  · rw [if_pos h17, if_pos h17]
  · rw [if_neg h17, if_neg h17]
    have hk : o.k < 17 := by omega
    have h1 := bareB_iff hk
    have h2 := right_iff hk
    cases hb : bareB o
    · have : badR o = true := by cases h : badR o; rw [h1.2 h] at hb; cases hb; rfl
      rw [if_pos this, if_pos rfl]
    · have hbr := h1.1 hb
      simp only [hbr, Bool.false_eq_true, Bool.true_eq_false, if_false]
      cases hr : (zOf o).all (rightV o)
      · have : bad2R o = true := by cases h : bad2R o; rw [h2.2 h] at hr; cases hr; rfl
        rw [if_pos this, if_pos rfl]
      · have hrr := h2.1 hr
        simp only [hrr, Bool.false_eq_true, Bool.true_eq_false, if_false]
        rcases bare_len hk hb with h | h
        · rw [textO_eq hk (by omega) (by omega), if_neg (by omega : ¬ 64 < o.a.size + o.b.size)]
          by_cases h3 : 64 < (writeB o (zOf o)).length
          · rw [if_pos (Or.inr (Or.inr h3)), if_pos h3]
          · rw [if_neg (by omega), if_neg h3]
        · rw [if_pos (Or.inr (Or.inr h))]
          by_cases h3 : 64 < o.a.size + o.b.size
          · rw [if_pos h3]
          · rw [if_neg h3, if_pos (by rw [← textO_eq hk (by omega) (by omega)]; exact h)]
/-! ### there and back -/
theorem opRead_write {o : OpV} (hw : o.wf) (h : checkV o = 0) : opRead (writeB o (zOf o)) = (o, 0) := by
  obtain ⟨hk, hb, hr, hab, hl⟩ := checkV_ok h
  have hz := zOf_get hk
  obtain ⟨k, a, b, n, q⟩ := o
  obtain ⟨w1, w2, w3⟩ := hw
  simp only [] at *
  rw [bareB_iff hk] at hb
  rw [right_iff hk] at hr
  unfold badR at hb
  unfold bad2R at hr
  have hc : UInt8.toNat (UInt8.ofNat k) = k := by simp; omega
  have hz' : signsL[(UInt8.ofNat k).toNat]? = some (zOf ⟨k, a, b, n, q⟩) := by rw [hc]; exact hz
  have hcons : ∀ l, leB 1 k ++ l = UInt8.ofNat k :: l := fun l => rfl
  have hn := rNum_app 1 n
  have hq := rNum_app 1 q
  have ha := fun ys => rText_app a ys 65535 (by omega) (by omega)
  have hbb := fun ys => rText_app b ys 65535 (by omega) (by omega)
  have m1 : n % 256 ^ 1 = n := by omega
  have m2 : q % 256 ^ 1 = q := by omega
  rw [m1] at hn
  rw [m2] at hq
  have hrd : ∀ l, writeB ⟨k, a, b, n, q⟩ (zOf ⟨k, a, b, n, q⟩) = leB 1 k ++ l → ∀ s : OpV × Rd, (zOf ⟨k, a, b, n, q⟩).foldl rdSign (⟨k, ⟨#[]⟩, ⟨#[]⟩, 0, 0⟩, ⟨l, 0⟩) = (⟨k, a, b, n, q⟩, ⟨[], 0⟩) → opRead (writeB ⟨k, a, b, n, q⟩ (zOf ⟨k, a, b, n, q⟩)) = (⟨k, a, b, n, q⟩, 0) := by
    intro l hl2 _ hf
    rw [hl2, hcons, opRead_cons (by rw [← hcons, ← hl2]; omega) hz', hc, hf]
    rfl
  have am : mkS a.data.toList = a := mkS_of a
  have bm : mkS b.data.toList = b := mkS_of b
  rcases parts_signs hz with ⟨h1, h2⟩ | ⟨h1, h2⟩ | ⟨h1, h2⟩ | ⟨h1, h2⟩
  · rw [h1] at hb hr
    simp at hb
    obtain ⟨rfl, rfl⟩ := hb
    refine hrd (textB a ++ textB b) (by rw [h2]; simp [writeB, signB]) (⟨k, a, b, 0, 0⟩, ⟨[], 0⟩) ?_
    rw [h2]
    have e1 : rdSign (⟨k, ⟨#[]⟩, ⟨#[]⟩, 0, 0⟩, ⟨textB a ++ textB b, 0⟩) 97 = (⟨k, a, ⟨#[]⟩, 0, 0⟩, ⟨textB b, 0⟩) := rdSign_keep (by unfold rdPart; rw [if_pos rfl, ha, am]) (Or.inr rfl)
    have e2 : rdSign (⟨k, a, ⟨#[]⟩, 0, 0⟩, ⟨textB b, 0⟩) 98 = (⟨k, a, b, 0, 0⟩, ⟨[], 0⟩) := rdSign_keep (by have := hbb []; rw [List.append_nil] at this; unfold rdPart; rw [if_neg (by decide), if_pos rfl, this, bm]) (Or.inr rfl)
    rw [List.foldl_cons, e1, List.foldl_cons, e2]; rfl
  · rw [h1] at hb hr
    simp at hb
    obtain ⟨rfl, rfl, rfl⟩ := hb
    refine hrd (textB a) (by rw [h2]; simp [writeB, signB]) (⟨k, a, ⟨#[]⟩, 0, 0⟩, ⟨[], 0⟩) ?_
    rw [h2]
    have e1 : rdSign (⟨k, ⟨#[]⟩, ⟨#[]⟩, 0, 0⟩, ⟨textB a, 0⟩) 97 = (⟨k, a, ⟨#[]⟩, 0, 0⟩, ⟨[], 0⟩) := rdSign_keep (by have := ha []; rw [List.append_nil] at this; unfold rdPart; rw [if_pos rfl, this, am]) (Or.inr rfl)
    rw [List.foldl_cons, e1]; rfl
  · rw [h1] at hb hr
    simp at hb
    obtain ⟨⟨rfl, rfl⟩, rfl, rfl⟩ := hb
    exact hrd [] (by rw [h2]; simp [writeB]) (⟨k, ⟨#[]⟩, ⟨#[]⟩, 0, 0⟩, ⟨[], 0⟩) (by rw [h2]; rfl)
  · rw [h1] at hb hr
    simp at hb hr
    obtain ⟨rfl, rfl⟩ := hb
    refine hrd (leB 1 n ++ leB 1 q) (by rw [h2]; simp [writeB, signB]) (⟨k, ⟨#[]⟩, ⟨#[]⟩, n, q⟩, ⟨[], 0⟩) ?_
    rw [h2]
    have e1 : rdSign (⟨k, ⟨#[]⟩, ⟨#[]⟩, 0, 0⟩, ⟨leB 1 n ++ leB 1 q, 0⟩) 110 = (⟨k, ⟨#[]⟩, ⟨#[]⟩, n, 0⟩, ⟨leB 1 q, 0⟩) := rdSign_keep (by unfold rdPart; rw [if_neg (by decide), if_neg (by decide), if_pos rfl, hn]) (Or.inr (by unfold rightV; rw [if_pos rfl]; exact decide_eq_true (by simp only []; omega)))
    have e2 : rdSign (⟨k, ⟨#[]⟩, ⟨#[]⟩, n, 0⟩, ⟨leB 1 q, 0⟩) 114 = (⟨k, ⟨#[]⟩, ⟨#[]⟩, n, q⟩, ⟨[], 0⟩) := rdSign_keep (by have := hq []; rw [List.append_nil] at this; unfold rdPart; rw [if_neg (by decide), if_neg (by decide), if_neg (by decide), if_pos rfl, this]) (Or.inr (by unfold rightV; rw [if_neg (by decide), if_pos rfl, Bool.and_eq_true]; exact ⟨decide_eq_true (by simp only []; omega), decide_eq_true (by simp only []; omega)⟩))
    rw [List.foldl_cons, e1, List.foldl_cons, e2]; rfl
theorem opRead_ok {bs : List UInt8} {o : OpV} (h : opRead bs = (o, 0)) : o.wf ∧ checkV o = 0 ∧ writeB o (zOf o) = bs ∧ o.a.size + o.b.size ≤ 64 := by
  have h64 : ¬ 64 < bs.length := fun h2 => by rw [opRead_long h2] at h; cases h
  cases bs with
  | nil => rw [opRead_nil] at h; cases h
  | cons c t =>
    have hk : c.toNat < 17 := by
      refine Classical.byContradiction fun h2 => ?_
      rw [opRead_kind h64 (by omega)] at h; cases h
    obtain ⟨z, hz⟩ : ∃ z, signsL[c.toNat]? = some z := ⟨_, List.getElem?_eq_getElem (by simp [signsL]; omega)⟩
    rw [opRead_cons h64 hz] at h
    split at h
    · rename_i h0
      obtain ⟨he, hbs⟩ := rEnd_zero h0
      have hc0 : ∀ l, leB 1 c.toNat ++ l = c :: l := fun l => by simp [leB]
      have hfin : ∀ (o : OpV), o.k = c.toNat → o.n < 256 → o.r < 256 → writeB o z = c :: t → badR o = false → bad2R o = false → o.a.size + o.b.size ≤ 64 → o.wf ∧ checkV o = 0 ∧ writeB o (zOf o) = c :: t ∧ o.a.size + o.b.size ≤ 64 := by
        intro o k0 k1 k2 k3 k4 k5 k6
        have hk' : o.k < 17 := by omega
        have hzo := zOf_of k0 hz
        refine ⟨⟨by omega, k1, k2⟩, ?_, by rw [hzo]; exact k3, k6⟩
        unfold checkV
        rw [if_neg (by omega), if_neg (by rw [(bareB_iff hk').2 k4]; decide), if_neg (by rw [(right_iff hk').2 k5]; decide), if_neg (by omega), hzo, k3, if_neg h64]
      rcases parts_signs hz with ⟨h1, rfl⟩ | ⟨h1, rfl⟩ | ⟨h1, rfl⟩ | ⟨h1, rfl⟩
      · simp only [List.foldl_cons, List.foldl_nil] at h he hbs
        cases h2 : rdSign (⟨c.toNat, ⟨#[]⟩, ⟨#[]⟩, 0, 0⟩, ⟨t, 0⟩) 97 with
        | mk o1 r1 =>
          rw [h2] at h he hbs
          cases h3 : rdSign (o1, r1) 98 with
          | mk o2 r2 =>
            rw [h3] at h he hbs
            cases h
            simp only [] at he hbs
            obtain ⟨g1, _⟩ := rdSign_ok h3 he
            unfold rdPart at g1
            rw [if_neg (by decide), if_pos rfl] at g1
            cases g3 : rText r1 65535 with
            | mk r x =>
              rw [g3] at g1
              cases g1
              obtain ⟨e1, e2, e3, _⟩ := rText_ok g3 he
              obtain ⟨g4, _⟩ := rdSign_ok h2 e1
              unfold rdPart at g4
              rw [if_pos rfl] at g4
              cases g5 : rText ⟨t, 0⟩ 65535 with
              | mk r' x' =>
                rw [g5] at g4
                cases g4
                obtain ⟨_, f2, f3, _⟩ := rText_ok g5 e1
                simp only [] at f2
                rw [e2, hbs, List.append_nil] at f2
                have hlen := congrArg List.length f2
                have l1 : (textB (mkS x')).length = 2 + x'.length := by unfold textB; rw [List.length_append, leB_length, List.length_take, mkS_data]; omega
                have l2 : (textB (mkS x)).length = 2 + x.length := by unfold textB; rw [List.length_append, leB_length, List.length_take, mkS_data]; omega
                rw [List.length_append, l1, l2] at hlen
                simp only [List.length_cons] at h64
                refine hfin _ rfl (show (0 : Nat) < 256 by decide) (show (0 : Nat) < 256 by decide) ?_ (by unfold badR; simp only []; rw [h1]; rfl) (by unfold bad2R; simp only []; rw [h1]; rfl) (by simp only [mkS_size]; omega)
                rw [f2]
                simp [writeB, signB, leB]
      · simp only [List.foldl_cons, List.foldl_nil] at h he hbs
        cases h2 : rdSign (⟨c.toNat, ⟨#[]⟩, ⟨#[]⟩, 0, 0⟩, ⟨t, 0⟩) 97 with
        | mk o1 r1 =>
          rw [h2] at h he hbs
          cases h
          simp only [] at he hbs
          obtain ⟨g4, _⟩ := rdSign_ok h2 he
          unfold rdPart at g4
          rw [if_pos rfl] at g4
          cases g5 : rText ⟨t, 0⟩ 65535 with
          | mk r' x' =>
            rw [g5] at g4
            cases g4
            obtain ⟨_, f2, f3, _⟩ := rText_ok g5 he
            simp only [] at f2
            rw [hbs, List.append_nil] at f2
            have hlen := congrArg List.length f2
            have l1 : (textB (mkS x')).length = 2 + x'.length := by unfold textB; rw [List.length_append, leB_length, List.length_take, mkS_data]; omega
            rw [l1] at hlen
            simp only [List.length_cons] at h64
            refine hfin _ rfl (show (0 : Nat) < 256 by decide) (show (0 : Nat) < 256 by decide) ?_ (by unfold badR; simp only []; rw [h1]; rfl) (by unfold bad2R; simp only []; rw [h1]; rfl) (by simp only [mkS_size, show (⟨#[]⟩ : ByteArray).size = 0 from rfl]; omega)
            rw [f2]
            simp [writeB, signB, leB]
      · simp only [List.foldl_nil] at h he hbs
        cases h
        subst hbs
        exact hfin _ rfl (show (0 : Nat) < 256 by decide) (show (0 : Nat) < 256 by decide) (by simp [writeB, leB]) (by unfold badR; simp only []; rw [h1]; rfl) (by unfold bad2R; simp only []; rw [h1]; rfl) (show (⟨#[]⟩ : ByteArray).size + (⟨#[]⟩ : ByteArray).size ≤ 64 by decide)
      · simp only [List.foldl_cons, List.foldl_nil] at h he hbs
        cases h2 : rdSign (⟨c.toNat, ⟨#[]⟩, ⟨#[]⟩, 0, 0⟩, ⟨t, 0⟩) 110 with
        | mk o1 r1 =>
          rw [h2] at h he hbs
          cases h3 : rdSign (o1, r1) 114 with
          | mk o2 r2 =>
            rw [h3] at h he hbs
            cases h
            simp only [] at he hbs
            obtain ⟨g1, v1⟩ := rdSign_ok h3 he
            unfold rdPart at g1
            rw [if_neg (by decide), if_neg (by decide), if_neg (by decide), if_pos rfl] at g1
            cases g3 : rNum r1 1 with
            | mk r x =>
              rw [g3] at g1
              cases g1
              obtain ⟨e1, e2, e3⟩ := rNum_ok g3 he
              obtain ⟨g4, v2⟩ := rdSign_ok h2 e1
              unfold rdPart at g4
              rw [if_neg (by decide), if_neg (by decide), if_pos rfl] at g4
              cases g5 : rNum ⟨t, 0⟩ 1 with
              | mk r' x' =>
                rw [g5] at g4
                cases g4
                obtain ⟨_, f2, f3⟩ := rNum_ok g5 e1
                simp only [] at f2
                rw [e2, hbs, List.append_nil] at f2
                unfold rightV at v1 v2
                rw [if_neg (by decide), if_pos rfl] at v1
                rw [if_pos rfl] at v2
                simp at v1 v2
                refine hfin _ rfl (by simp only []; omega) (by simp only []; omega) ?_ (by unfold badR; simp only []; rw [h1]; simp) (by unfold bad2R; simp only []; rw [h1]; simp; omega) (show (⟨#[]⟩ : ByteArray).size + (⟨#[]⟩ : ByteArray).size ≤ 64 by decide)
                rw [f2]
                simp [writeB, signB, leB]
    · rename_i h0
      exact absurd (congrArg Prod.snd h) h0
end Go.Proofs.Ytdngcheimohamaa
/- Replies: what is written is read, and what is read is written (no program). -/
namespace Go.Proofs.Ytdngcheimohamaa
open Go.RowKit

theorem rTexts_ok {r : Rd} {long : Int} : ∀ (n : Nat), (rTexts r long n).1.e = 0 → r.e = 0 ∧ r.bs = (rTexts r long n).2.flatMap textB ++ (rTexts r long n).1.bs ∧ ∀ s ∈ (rTexts r long n).2, s.size < 65536 ∧ (s.size : Int) ≤ max 0 long
  | 0, h => ⟨h, by simp [rTexts], fun s hs => by simp [rTexts] at hs⟩
  | n + 1, h => by
    simp only [rTexts] at h ⊢
    cases hq : rText (rTexts r long n).1 long with
    | mk r1 x =>
      rw [hq] at h
      obtain ⟨h1, h2, h3, h4⟩ := rText_ok hq h
      obtain ⟨g1, g2, g3⟩ := rTexts_ok n h1
      refine ⟨g1, ?_, ?_⟩
      · rw [List.flatMap_append, List.append_assoc]
        simp only [List.flatMap_cons, List.flatMap_nil, List.append_nil]
        rw [← h2]; exact g2
      · intro s hs
        rw [List.mem_append] at hs
        rcases hs with hs | hs
        · exact g3 s hs
        · simp at hs; subst hs; rw [mkS_size]; exact ⟨h3, h4⟩
theorem rRow_back {r r1 : Rd} {most long : Int} {l : List ByteArray} (h : rRow r most long = (r1, l)) (h0 : r1.e = 0) : r.e = 0 ∧ r.bs = rowB l ++ r1.bs ∧ (l.length : Int) ≤ max 0 most ∧ l.length < 65536 ∧ ∀ s ∈ l, s.size < 65536 ∧ (s.size : Int) ≤ max 0 long := by
  unfold rRow at h
  cases hq : rCount r most with
  | mk q n =>
    rw [hq] at h
    simp only [] at h
    have e1 : (rTexts q long n).1 = r1 := congrArg Prod.fst h
    rw [e1, if_pos h0] at h
    have e2 : (rTexts q long n).2 = l := congrArg Prod.snd h
    obtain ⟨g1, g2, g3⟩ := rTexts_ok n (by rw [e1]; exact h0)
    have hlen := rTexts_len q long n
    rw [e2] at g2 g3 hlen
    rw [e1] at g2
    obtain ⟨k1, k2, k3, k4⟩ := rCount_ok hq g1
    refine ⟨k1, ?_, by rw [hlen]; exact k4, by omega, g3⟩
    rw [k2, g2]
    unfold rowB
    rw [hlen, Nat.min_eq_left (by omega), List.take_of_length_le (by omega), List.append_assoc]
theorem repGet_ok {b : List UInt8} {e : Nat} {l : List ByteArray} (h : repGet b = ((e, l), 0)) : e < 256 ∧ repB e l = b ∧ l.length ≤ 400 ∧ ∀ s ∈ l, s.size ≤ 400 := by
  unfold repGet at h
  split at h
  · rename_i h0
    obtain ⟨h1, h2⟩ := rEnd_zero h0
    unfold repR3 at h1 h2
    cases hq : rNum ⟨b, 0⟩ 1 with
    | mk q k =>
      have hr1 : repR1 b = if 18 < k then rFail q 4 else q := by unfold repR1; rw [hq]
      rw [hq] at h h1 h2
      simp only [] at h1 h2
      cases hw : rRow (repR1 b) 400 400 with
      | mk r2 l2 =>
        rw [hw] at h h1 h2
        cases h
        simp only [] at h1 h2
        show k < 256 ∧ repB k l2 = b ∧ l2.length ≤ 400 ∧ ∀ s ∈ l2, s.size ≤ 400
        by_cases hc : k ≠ 0 ∧ 0 < l2.length
        · rw [if_pos hc] at h1; exact absurd h1 (rFail_e _ (by decide))
        · rw [if_neg hc] at h1 h2
          obtain ⟨g1, g2, g3, _, g5⟩ := rRow_back hw h1
          rw [hr1] at g1 g2
          by_cases h18 : 18 < k
          · rw [if_pos h18] at g1; exact absurd g1 (rFail_e _ (by decide))
          · rw [if_neg h18] at g1 g2
            obtain ⟨_, k2, _⟩ := rNum_ok hq g1
            simp only [] at k2
            refine ⟨by omega, ?_, by omega, fun s hs => by have := (g5 s hs).2; omega⟩
            rw [k2, g2, h2, List.append_nil]
            unfold repB
            by_cases he : k = 0
            · rw [if_pos he]
            · rw [if_neg he]
              have : l2 = [] := by
                rcases l2 with _ | ⟨x, l2⟩
                · rfl
                · exact absurd ⟨he, by simp⟩ hc
              rw [this]
  · rename_i h0
    exact absurd (congrArg Prod.snd h) h0
theorem repGet_put {e : Nat} {l : List ByteArray} (he : e < 19) (hl : l.length ≤ 400) (hs : ∀ s ∈ l, s.size ≤ 400) : repGet (repB e l) = ((e, if e = 0 then l else []), 0) := by
  have h1 : rNum ⟨repB e l, 0⟩ 1 = (⟨rowB (if e = 0 then l else []), 0⟩, e) := by
    unfold repB
    rw [rNum_app]
    rw [show e % 256 ^ 1 = e by omega]
  have h2 : repR1 (repB e l) = ⟨rowB (if e = 0 then l else []), 0⟩ := by unfold repR1; rw [h1, if_neg (by simp only []; omega)]
  have h3 : rRow (repR1 (repB e l)) 400 400 = (⟨[], 0⟩, if e = 0 then l else []) := by
    rw [h2]
    have := rRow_app (if e = 0 then l else []) [] 400 400 (by split; omega; simp) (by split; omega; simp) (fun s hs' => by
      split at hs'
      · have := hs s hs'; omega
      · simp at hs')
    rwa [List.append_nil] at this
  have h4 : repR3 (repB e l) = ⟨[], 0⟩ := by
    unfold repR3
    rw [h1, h3, if_neg]
    rintro ⟨h5, h6⟩
    simp only [] at h5 h6
    rw [if_neg h5] at h6; simp at h6
  unfold repGet
  rw [h4, if_pos (show rEnd ⟨[], 0⟩ = 0 from rfl), h1, h3]
theorem repB_repR {e : Nat} {l : List ByteArray} (hl : l.length ≤ 65535) (hs : ∀ s ∈ l, s.size ≤ 65535) : repR e l = repB e l := by
  unfold repR repB
  rw [rowR_eq (by split; exact hl; simp) (fun s hs' => by
    split at hs'
    · exact hs s hs'
    · simp at hs')]
theorem sumSz_few : ∀ (l : List ByteArray) (k : Nat), (∀ s ∈ l, s.size ≤ k) → sumSz l ≤ (k + 2) * l.length
  | [], k, _ => by simp [sumSz]
  | s :: l, k, h => by
    have h1 := h s (by simp)
    have h2 := sumSz_few l k (fun x hx => h x (by simp [hx]))
    simp only [sumSz, List.map_cons, List.sum_cons, List.length_cons, Nat.mul_add] at *
    omega
end Go.Proofs.Ytdngcheimohamaa
/- Tables: same bytes, same rows; numbers rise (no program). -/
namespace Go.Proofs.Ytdngcheimohamaa
open Go.RowKit

/-- A row as it may be. -/
structure Good3 (x : T3) : Prop where
  num : x.1 < 18446744073709551616
  e : x.2.1 < 19
  kept : x.2.1 ≠ 0 → x.2.2 = []
  few : x.2.2.length ≤ 400
  small : ∀ s ∈ x.2.2, s.size ≤ 100
  zero : x.1 = 0 → x.2.1 = 0 ∧ x.2.2 = []
  sum : sumSz x.2.2 ≤ 50000
structure GoodT (t : List T3) : Prop where
  len : t.length = 8
  rows : ∀ x ∈ t, Good3 x
theorem zeroT_good : GoodT zeroT := ⟨rfl, fun x hx => by
  unfold zeroT at hx
  rw [List.mem_replicate] at hx
  rw [hx.2]
  exact ⟨by decide, by decide, fun _ => rfl, by decide, fun s hs => by simp at hs, fun _ => ⟨rfl, rfl⟩, by decide⟩⟩
theorem judge_lt {t : List T3} {i num : Nat} (h : judgeA t i num = 3) : i < 8 ∧ 0 < num ∧ num ≤ 1099511627776 ∧ lastA t i < num := by
  unfold judgeA at h
  split at h
  · cases h
  · split at h
    · cases h
    · split at h
      · cases h
      · omega
theorem putA_good {t : List T3} (h : GoodT t) {i num e : Nat} {l : List ByteArray} (he : e < 19) (hl : l.length ≤ 10) (hs : ∀ s ∈ l, s.size ≤ 50) : GoodT (putA t i num e l).1 := by
  unfold putA
  split
  · exact h
  · split
    · rename_i h3
      obtain ⟨h1, h2, h4, _⟩ := judge_lt h3
      refine ⟨by simp only [List.length_set]; exact h.len, fun x hx => ?_⟩
      rcases List.mem_or_eq_of_mem_set hx with hx | hx
      · exact h.rows x hx
      · subst hx
        have hk : keptL e l = if e = 0 then l else [] := rfl
        refine ⟨by simp only []; omega, he, fun h => by simp only [] at *; rw [hk, if_neg h], ?_, ?_, fun h => by simp only [] at h; omega, ?_⟩
        · simp only [hk]; split; omega; simp
        · intro s hs'
          simp only [hk] at hs'
          split at hs'
          · have := hs s hs'; omega
          · simp at hs'
        · simp only [hk]
          split
          · have := sumSz_few l 50 hs; omega
          · simp [sumSz]
    · exact h
theorem repB_small {x : T3} (h : Good3 x) : (repB x.2.1 x.2.2).length ≤ 65535 := by
  have := repB_length x.2.1 x.2.2
  have := h.sum
  omega
theorem rowT_inj {x y : T3} {u v : List UInt8} (hx : Good3 x) (hy : Good3 y) (h : rowT x ++ u = rowT y ++ v) : x = y ∧ u = v := by
  have hr : ∀ (z : T3) (u : List UInt8), Good3 z → rNum ⟨rowT z ++ u, 0⟩ 8 = (⟨(if 0 < z.1 then textB (mkS (repB z.2.1 z.2.2)) else []) ++ u, 0⟩, z.1) := fun z u hz => by
    unfold rowT
    rw [List.append_assoc, rNum_app]
    have := hz.num
    rw [Nat.mod_eq_of_lt (by simpa using this)]
  have e1 := hr x u hx
  have e2 := hr y v hy
  rw [h, e2] at e1
  have hn : y.1 = x.1 := congrArg Prod.snd e1
  have hb : (if 0 < y.1 then textB (mkS (repB y.2.1 y.2.2)) else []) ++ v = (if 0 < x.1 then textB (mkS (repB x.2.1 x.2.2)) else []) ++ u := congrArg (fun q => q.1.bs) e1
  rw [hn] at hb
  by_cases h0 : 0 < x.1
  · rw [if_pos h0, if_pos h0] at hb
    have ht : ∀ (z : T3) (u : List UInt8), Good3 z → rText ⟨textB (mkS (repB z.2.1 z.2.2)) ++ u, 0⟩ 65535 = (⟨u, 0⟩, repB z.2.1 z.2.2) := fun z u hz => by
      have := repB_small hz
      rw [rText_app _ _ _ (by rw [mkS_size]; omega) (by rw [mkS_size]; omega), mkS_data]
    have e3 := ht x u hx
    rw [← hb, ht y v hy] at e3
    have huv : v = u := congrArg (fun q => q.1.bs) e3
    have hrep : repB y.2.1 y.2.2 = repB x.2.1 x.2.2 := congrArg Prod.snd e3
    have hg : ∀ z : T3, Good3 z → repGet (repB z.2.1 z.2.2) = ((z.2.1, z.2.2), 0) := fun z hz => by
      rw [repGet_put hz.e (by have := hz.few; omega) (fun s hs => by have := hz.small s hs; omega)]
      by_cases he : z.2.1 = 0
      · rw [if_pos he]
      · rw [if_neg he, hz.kept he]
    have e4 := hg x hx
    rw [← hrep, hg y hy] at e4
    have e5 : (y.2.1, y.2.2) = (x.2.1, x.2.2) := congrArg Prod.fst e4
    refine ⟨?_, huv.symm⟩
    obtain ⟨a, b, c⟩ := x
    obtain ⟨a', b', c'⟩ := y
    simp only [Prod.mk.injEq] at *
    exact ⟨hn.symm, e5.1.symm, e5.2.symm⟩
  · rw [if_neg h0, if_neg h0] at hb
    obtain ⟨z1, z2⟩ := hx.zero (by omega)
    obtain ⟨z3, z4⟩ := hy.zero (by omega)
    refine ⟨?_, hb.symm⟩
    obtain ⟨a, b, c⟩ := x
    obtain ⟨a', b', c'⟩ := y
    simp only [Prod.mk.injEq] at *
    exact ⟨hn.symm, by omega, by rw [z2, z4]⟩
theorem tblB_inj : ∀ (t t' : List T3) (u v : List UInt8), t.length = t'.length → (∀ x ∈ t, Good3 x) → (∀ x ∈ t', Good3 x) → tblB t ++ u = tblB t' ++ v → t = t'
  | [], [], _, _, _, _, _, _ => rfl
  | [], _ :: _, _, _, h, _, _, _ => by simp at h
  | _ :: _, [], _, _, h, _, _, _ => by simp at h
  | x :: t, y :: t', u, v, hl, h1, h2, h => by
    unfold tblB at h
    rw [List.flatMap_cons, List.flatMap_cons, List.append_assoc, List.append_assoc] at h
    obtain ⟨rfl, h3⟩ := rowT_inj (h1 x (by simp)) (h2 y (by simp)) h
    rw [tblB_inj t t' u v (by simpa using hl) (fun z hz => h1 z (by simp [hz])) (fun z hz => h2 z (by simp [hz])) h3]
theorem tblB_iff {t t' : List T3} (h : GoodT t) (h' : GoodT t') : tblB t = tblB t' ↔ t = t' := by
  constructor
  · intro e
    exact tblB_inj t t' [] [] (by rw [h.len, h'.len]) h.rows h'.rows (by rw [e])
  · rintro rfl; rfl
def eqRow (t t' : List T3) (j : Nat) : Bool := decide (lastA t j = lastA t' j) && (decide ((repA t j).1 = (repA t' j).1) && (decide ((repA t j).1 ≠ 0) || decide ((repA t j).2 = (repA t' j).2)))
theorem eqRow_iff {t t' : List T3} (h : GoodT t) (h' : GoodT t') {j : Nat} (hj : j < 8) : eqRow t t' j = true ↔ t[j]? = t'[j]? := by
  obtain ⟨x, hx⟩ : ∃ x, t[j]? = some x := ⟨_, List.getElem?_eq_getElem (by rw [h.len]; exact hj)⟩
  obtain ⟨y, hy⟩ : ∃ y, t'[j]? = some y := ⟨_, List.getElem?_eq_getElem (by rw [h'.len]; exact hj)⟩
  have gx := h.rows x (List.mem_of_getElem? hx)
  have gy := h'.rows y (List.mem_of_getElem? hy)
  unfold eqRow lastA repA
  rw [hx, hy]
  obtain ⟨a, b, c⟩ := x
  obtain ⟨a', b', c'⟩ := y
  have k1 := gx.kept
  have k2 := gy.kept
  simp only [Option.map_some, Option.getD_some, Bool.and_eq_true, Bool.or_eq_true, decide_eq_true_eq, Option.some.injEq, Prod.mk.injEq] at *
  constructor
  · rintro ⟨h1, h2, h3⟩
    refine ⟨h1, h2, ?_⟩
    rcases h3 with h3 | h3
    · rw [k1 h3, k2 (by rw [← h2]; exact h3)]
    · exact h3
  · rintro ⟨rfl, rfl, rfl⟩
    exact ⟨rfl, rfl, Or.inr rfl⟩
theorem eqRows_iff {t t' : List T3} (h : GoodT t) (h' : GoodT t') : (List.range 8).all (eqRow t t') = decide (tblB t = tblB t') := by
  rw [Bool.eq_iff_iff, decide_eq_true_eq, tblB_iff h h', List.all_eq_true]
  constructor
  · intro hh
    apply List.ext_getElem?
    intro j
    by_cases hj : j < 8
    · exact (eqRow_iff h h' hj).1 (hh j (List.mem_range.2 hj))
    · rw [List.getElem?_eq_none (by rw [h.len]; omega), List.getElem?_eq_none (by rw [h'.len]; omega)]
  · rintro rfl j hj
    exact (eqRow_iff h h (List.mem_range.1 hj)).2 rfl
end Go.Proofs.Ytdngcheimohamaa
/- interrexlaw15.TableApart: the walk. -/
namespace Go.Proofs.Ytdngcheimohamaa
open Go.RowKit

def foldA (t : List T3) (L : List ActT) : List T3 := L.foldl (fun t a => (putA t a.cl a.num (a.e % 19) a.l).1) t
theorem foldA_snoc (t : List T3) {L : List ActT} {k : Nat} {a : ActT} (h : L[k]? = some a) : foldA t (L.take (k + 1)) = (putA (foldA t (L.take k)) a.cl a.num (a.e % 19) a.l).1 := by
  unfold foldA; rw [take_snoc' h, List.foldl_append]; rfl
theorem small_iff {a : ActT} (h : a.small = true) : a.n ≤ 10 ∧ ∀ s ∈ a.l, s.size ≤ 50 := by
  unfold ActT.small at h
  simp only [Bool.and_eq_true, decide_eq_true_eq, List.all_eq_true] at h
  exact h
theorem fewT_iff {L : List ActT} (h : fewT L = true) : (∀ a ∈ L, a.small = true) ∧ L.length ≤ 40 := by
  unfold fewT at h
  simp only [Bool.and_eq_true, decide_eq_true_eq, List.all_eq_true] at h
  exact h
theorem foldA_good : ∀ (L : List ActT) (t : List T3), GoodT t → (∀ a ∈ L, a.small = true ∧ a.ok) → GoodT (foldA t L)
  | [], _, h, _ => h
  | a :: L, t, h, hL => by
    obtain ⟨hs, hk⟩ := hL a (by simp)
    obtain ⟨h1, h2⟩ := small_iff hs
    unfold foldA
    rw [List.foldl_cons]
    exact foldA_good L _ (putA_good h (Nat.mod_lt _ (by decide)) (by rw [hk.len]; exact h1) h2) (fun b hb => hL b (by simp [hb]))
/-- One act's Put, as a contract for all its places. -/
theorem act_put {w W : World} {A : Option Addr} {L : List ActT} {U : Nat → Prop} {p : Nat} {t : List T3} {k : Nat} {a : ActT} (h : ActsAt w A L) (hok : ∀ a ∈ L, a.ok) (hsm : ∀ a ∈ L, a.small = true) (ha : L[k]? = some a) (hp : w.heap.size ≤ p) (F : Fr noB w W) (hU : ∀ k, W.heap.size ≤ k → U k) (hT : TblA W U p t) :
    Calls Try.prog 11 #[.pointer (some ⟨p, 0, none⟩), .int .u8 a.cl, .int .u64 a.num, .agg #[.int .i64 (a.e % 19 : Nat), .slice a.A a.n a.c]] W
      (fun ed w' => ed = .returned (.int .i64 ((putA t a.cl a.num (a.e % 19) a.l).2 : Nat)) ∧ TblA w' U p (putA t a.cl a.num (a.e % 19) a.l).1 ∧ Fr (eqB p) W w') := by
  have hm := List.mem_of_getElem? ha
  obtain ⟨h1, h2⟩ := small_iff (hsm a hm)
  have hk := hok a hm
  have hs := sumSz_few a.l 50 h2
  rw [hk.len] at hs
  exact putT_calls W U p t a.cl a.num (a.e % 19) a.A a.n a.c a.l hT hU ((h.sub a hm).fr0 F) hk.len hk.nil (by omega) (by omega) (by omega) hk.num (fun ad e h0 hp' => by
    have hr := h.sub a hm
    rw [e] at hr
    have := hr.lt (by simp only [strs, List.length_map]; rw [hk.len]; exact h0)
    omega)
end Go.Proofs.Ytdngcheimohamaa
/- A slice of acts (interrexlaw15) among the arguments. -/
namespace Go.Proofs.Ytdngcheimohamaa
open Go.RowKit Go.ChangeShapes Go.WideShapes
instance : Inhabited ActT := ⟨⟨0, 0, 0, 0, none, 0, 0, []⟩⟩
theorem u8_nat {n : Int} (h : (Lit.int .u8 n).wf = true) : 0 ≤ n ∧ n < 256 := by
  simp [Lit.wf, IntKind.min, IntKind.max, IntKind.bits, IntKind.signed] at h; omega
theorem u64_nat {n : Int} (h : (Lit.int .u64 n).wf = true) : 0 ≤ n ∧ n ≤ 18446744073709551615 := by
  simp [Lit.wf, IntKind.min, IntKind.max, IntKind.bits, IntKind.signed] at h; omega
theorem list_5 {α : Type} : ∀ {l : List α}, l.length = 5 → ∃ x0 x1 x2 x3 x4, l = [x0, x1, x2, x3, x4]
  | [x0, x1, x2, x3, x4], _ => ⟨x0, x1, x2, x3, x4, rfl⟩
section
variable {H : Type} {enc : TypeId × Value → H} {w : World}
set_option maxRecDepth 100000 in
theorem open_actT (n : Nat) (cs : List Value) (y : DataW H × List MemPlace) (h : DataW.trod enc Try.prog w 0 (fun _ => true) true n 36 cs = some y) :
    ∃ a : ActT, cs = a.C ∧ (a.ok ∧ RowAt w a.A (strs a.l)) := by
  obtain ⟨xs, m, _, rfl, hl, hlen, hf⟩ := DataW.trod_struct Try.underlying36 h
  have ct : Try.prog.cellsOf 36 = 5 := by kernel_rfl
  have k0 : Try.prog.cellsOf 5 = 1 := by kernel_rfl
  have k1 : Try.prog.cellsOf 23 = 1 := by kernel_rfl
  have k2 : Try.prog.cellsOf 28 = 1 := by kernel_rfl
  rw [ct] at hl
  obtain ⟨v0, v1, v2, v3, v4, rfl⟩ := list_5 hl
  obtain ⟨x0, x1, x2, x3, x4, rfl⟩ := list_5 (show xs.length = 5 from hlen)
  have g0 : DataW.trod enc Try.prog w 0 (fun _ => true) true m 5 (([v0, v1, v2, v3, v4].drop 0).take (Try.prog.cellsOf 5)) = some x0 := by
    have := hf 0 _ rfl
    exact this
  rw [k0] at g0
  have f0 : DataW.trod enc Try.prog w 0 (fun _ => true) true m 5 [v0] = some x0 := g0
  have g1 : DataW.trod enc Try.prog w 0 (fun _ => true) true m 5 (([v0, v1, v2, v3, v4].drop 1).take (Try.prog.cellsOf 5)) = some x1 := by
    have := hf 1 _ rfl
    exact this
  rw [k0] at g1
  have f1 : DataW.trod enc Try.prog w 0 (fun _ => true) true m 5 [v1] = some x1 := g1
  have g2 : DataW.trod enc Try.prog w 0 (fun _ => true) true m 23 (([v0, v1, v2, v3, v4].drop 2).take (Try.prog.cellsOf 23)) = some x2 := by
    have := hf 2 _ rfl
    exact this
  rw [k1] at g2
  have f2 : DataW.trod enc Try.prog w 0 (fun _ => true) true m 23 [v2] = some x2 := g2
  have g3 : DataW.trod enc Try.prog w 0 (fun _ => true) true m 5 (([v0, v1, v2, v3, v4].drop 3).take (Try.prog.cellsOf 5)) = some x3 := by
    have := hf 3 _ rfl
    exact this
  rw [k0] at g3
  have f3 : DataW.trod enc Try.prog w 0 (fun _ => true) true m 5 [v3] = some x3 := g3
  have g4 : DataW.trod enc Try.prog w 0 (fun _ => true) true m 28 (([v0, v1, v2, v3, v4].drop 4).take (Try.prog.cellsOf 28)) = some x4 := by
    have := hf 4 _ rfl
    exact this
  rw [k2] at g4
  have f4 : DataW.trod enc Try.prog w 0 (fun _ => true) true m 28 [v4] = some x4 := g4
  obtain ⟨n0, e0, _, w0⟩ := DataW.trod_int Try.underlying5 f0
  simp only [List.cons.injEq, and_true] at e0
  subst e0
  obtain ⟨u0, hu0⟩ := u8_nat w0
  obtain ⟨m0, rfl⟩ := Int.eq_ofNat_of_zero_le u0
  obtain ⟨n1, e1, _, w1⟩ := DataW.trod_int Try.underlying5 f1
  simp only [List.cons.injEq, and_true] at e1
  subst e1
  obtain ⟨u1, hu1⟩ := u8_nat w1
  obtain ⟨m1, rfl⟩ := Int.eq_ofNat_of_zero_le u1
  obtain ⟨n2, e2, _, w2⟩ := DataW.trod_int Try.underlying23 f2
  simp only [List.cons.injEq, and_true] at e2
  subst e2
  obtain ⟨u2, hu2⟩ := u64_nat w2
  obtain ⟨m2, rfl⟩ := Int.eq_ofNat_of_zero_le u2
  obtain ⟨n3, e3, _, w3⟩ := DataW.trod_int Try.underlying5 f3
  simp only [List.cons.injEq, and_true] at e3
  subst e3
  obtain ⟨u3, hu3⟩ := u8_nat w3
  obtain ⟨m3, rfl⟩ := Int.eq_ofNat_of_zero_le u3
  obtain ⟨A4, len4, cap4, rfl⟩ : ∃ A len cap, v4 = .slice A len cap := by
    rcases DataW.trod_slice Try.underlying28 f4 with ⟨e, _⟩ | ⟨a, len, cap, _, _, _, _, e, _⟩
    · simp only [List.cons.injEq, and_true] at e; exact ⟨_, _, _, e⟩
    · simp only [List.cons.injEq, and_true] at e; exact ⟨_, _, _, e⟩
  obtain ⟨ss4, sr4, sl4, sc4, sm4, sz4, sn4⟩ := open_strs (P := Try.prog) (w := w) (enc := enc) (d := x4.1) (ps := x4.2) Try.underlying28 Try.underlying9 (by kernel_rfl) ⟨m, by simpa [Value.cells] using f4⟩
  exact ⟨⟨m0, m1, m2, m3, A4, len4, cap4, ss4⟩, rfl, ⟨by simp only []; omega, by simp only []; omega, by simp only []; omega, by simp only []; omega, sl4, sc4, Nat.le_trans sm4 (by decide), sn4⟩, sr4⟩

theorem open_actsT {A : Option Addr} {len cap : Nat} {d : DataW H} {ps : List MemPlace} (h : DataW.Trod enc Try.prog w 0 (fun _ => true) true 22 (.slice A len cap) d ps) :
    ∃ L : List ActT, ActsAt w A L ∧ L.length = len ∧ len ≤ cap ∧ cap ≤ maxLen ∧ (∀ a ∈ L, a.ok) ∧ (A = none → len = 0 ∧ cap = 0) := by
  obtain ⟨l, h1, h2, h3, h4, h5, h6⟩ := open_rows ActT.C (fun a => a.ok ∧ RowAt w a.A (strs a.l)) Try.underlying22 open_actT h
  exact ⟨l, ⟨h1, fun a ha => (h5 a ha).2⟩, h2, h3, h4, fun a ha => (h5 a ha).1, h6⟩
end
end Go.Proofs.Ytdngcheimohamaa
/- interrexref15.Judge. -/
namespace Go.Proofs.Ytdngcheimohamaa
open Go.RowKit
theorem blk_num {w : World} {b : Nat} {T : TypeId} {R : List TRow} (h : BlkAt w b T (R.flatMap TRow.C).toArray) {i : Nat} {r : TRow} (hr : R[i]? = some r) : w.cell? ⟨b, i * 3, none⟩ = some (.int .u64 r.num) := by
  refine h.cell ?_
  have := flat_get TRow.C 3 (fun _ => rfl) R i 0 r _ hr rfl
  simpa using this
set_option maxRecDepth 100000 in
set_option maxHeartbeats 1600000 in
theorem judgeR_calls (w : World) (R : List TRow) (hR : R.length = 8) (i num : Nat) : Calls Try.prog 20 #[.agg (R.flatMap TRow.C).toArray, .int .u8 i, .int .u64 num] w (fun e w' => e = .returned (.int .i64 (judgeV R i num)) ∧ Fr noB w w') := by
  have HV : Hid (judgeV R i num = if 8 ≤ i ∨ num = 0 ∨ 1099511627776 < num then 0 else if num < lastV R i then 1 else if num = lastV R i then 2 else 3) := rfl
  have hb0 := BlkAt.new w (R.flatMap TRow.C).toArray 34
  have f0 := (Fr.refl noB w).alloc (.cells (R.flatMap TRow.C).toArray 34)
  generalize judgeV R i num = v at *
  obtain ⟨c1, h1⟩ : ∃ c, decide ((7 : Int) < i) = c := ⟨_, rfl⟩
  obtain ⟨c2, h2⟩ : ∃ c, decide ((num : Int) < 1) = c := ⟨_, rfl⟩
  obtain ⟨c3, h3⟩ : ∃ c, decide ((1099511627776 : Int) < num) = c := ⟨_, rfl⟩
  by_cases hb : 8 ≤ i ∨ num = 0 ∨ 1099511627776 < num
  · rw [if_pos hb] at HV
    have hc : c1 = true ∨ c2 = true ∨ c3 = true := by
      rw [← h1, ← h2, ← h3]; simp only [decide_eq_true_eq]; omega
    generalize (R.flatMap TRow.C).toArray = C at *
    cases c1 <;> cases c2 <;> cases c3
    all_goals
      first
      | (exfalso; simp at hc; done)
      | (clear hc hb
         go_enter Try.func20, Try.ntmps20
         go_wp2_with fail
         go_ret
         exact ⟨by rw [HV.out]; rfl, f0⟩)
  · rw [if_neg hb] at HV
    obtain rfl : c1 = false := by rw [← h1]; exact decide_eq_false (by omega)
    obtain rfl : c2 = false := by rw [← h2]; exact decide_eq_false (by omega)
    obtain rfl : c3 = false := by rw [← h3]; exact decide_eq_false (by omega)
    obtain ⟨r, hr⟩ : ∃ r, R[i]? = some r := ⟨_, List.getElem?_eq_getElem (by rw [hR]; omega)⟩
    have x0 := blk_num hb0 hr
    have hl : lastV R i = r.num := by unfold lastV; rw [hr]; rfl
    rw [hl] at HV
    have hi : 0 ≤ (i : Int) ∧ (i : Int) < 8 := ⟨by omega, by omega⟩
    generalize r.num = m at *
    generalize (R.flatMap TRow.C).toArray = C at *
    obtain ⟨c4, h4⟩ : ∃ c, decide (num < m) = c := ⟨_, rfl⟩
    obtain ⟨c5, h5⟩ : ∃ c, ((num : Int) == m) = c := ⟨_, rfl⟩
    have h5' : c5 = decide (num = m) := by rw [← h5, Bool.eq_iff_iff]; simp; omega
    have hv : v = if c4 then 1 else if c5 then 2 else 3 := by
      have hvo := HV.out
      rw [hvo, ← h4, h5']
      by_cases g1 : num < m
      · simp [g1]
      · by_cases g2 : num = m
        · simp [g1, g2]
        · simp [g1, g2]
    have h6 : (num == m) = c5 := by rw [h5', Bool.eq_iff_iff]; simp
    clear h5'
    have HVV := hid hv
    clear hb hr hl HV hb0 hR hv
    cases c4 <;> cases c5
    all_goals
      go_enter Try.func20, Try.ntmps20
      go_upto_region 1 with fail
      generalize w.alloc (.cells C 34) = wa at *
      go_wp2_with fail
      go_ret
      exact ⟨by rw [HVV.out]; rfl, f0⟩
end Go.Proofs.Ytdngcheimohamaa
/- Results that lie in blocks, loaded whole. -/
namespace Go.Proofs.Ytdngcheimohamaa
open Go.RowKit
theorem load_blk {P : Program} {w : World} {b : Nat} {T : TypeId} {C : Array Value} {d : TypeDesc} (h : BlkAt w b T C) (hu : P.underlying T = some d) (hd : d.isRow = true) (hi : (P.info? T).map (·.size) = some C.size) :
    (loadVar T ⟨b, 0, none⟩).run P w = .ok (.agg C) w :=
  run_loadVar_mid w b 0 T C.toList d (fun j v hv => by rw [Nat.zero_add]; exact h.cell (by simpa using hv)) hu hd (by simpa using hi)
theorem results_cell1 {P : Program} {fn : Func} {tmps : Array Value} {w : World} {k : Tmp} {T : TypeId} {b : Nat} {v : Value} (hr : fn.results = #[.cell k T]) (ht : tmps.getD k undef = .pointer (some ⟨b, 0, none⟩)) (hl : (loadVar T ⟨b, 0, none⟩).run P w = .ok v w) :
    (results fn tmps).run P w = .ok v w := by
  have ht' : tmps[k]?.getD undef = .pointer (some ⟨b, 0, none⟩) := by simpa using ht
  unfold results
  rw [hr]
  generalize loadVar = ld at hl ⊢
  simp [go_sem, ht', hl]
theorem results_cell2 {P : Program} {fn : Func} {tmps : Array Value} {w : World} {k m : Tmp} {T : TypeId} {b : Nat} {v u : Value} (hr : fn.results = #[.cell k T, .tmp m]) (ht : tmps.getD k undef = .pointer (some ⟨b, 0, none⟩)) (hl : (loadVar T ⟨b, 0, none⟩).run P w = .ok v w) (hu : tmps.getD m undef = u) :
    (results fn tmps).run P w = .ok (.tuple #[v, u]) w := by
  have ht' : tmps[k]?.getD undef = .pointer (some ⟨b, 0, none⟩) := by simpa using ht
  have hu' : tmps[m]?.getD undef = u := by simpa using hu
  unfold results
  rw [hr]
  generalize loadVar = ld at hl ⊢
  simp [go_sem, ht', hl, hu']
/-! ### Whole stores and loads, the world behind them left abstract -/
theorem BlkAt.setCells {p : Nat} {T : TypeId} : ∀ (vs : List Value) (k : Nat) (w : World) (C : List Value), BlkAt w p T C.toArray → k + vs.length ≤ C.length → BlkAt (w.setCells p k vs) p T (C.take k ++ vs ++ C.drop (k + vs.length)).toArray
  | [], k, w, C, h, _ => by simpa [World.setCells] using h
  | v :: vs, k, w, C, h, hk => by
    have h1 := h.set k v
    rw [List.setIfInBounds_toArray] at h1
    have := BlkAt.setCells vs (k + 1) _ _ h1 (by simp only [List.length_set, List.length_cons] at hk ⊢; omega)
    have e : (C.set k v).take (k + 1) ++ vs ++ (C.set k v).drop (k + 1 + vs.length) = C.take k ++ (v :: vs) ++ C.drop (k + (v :: vs).length) := by
      simp only [List.length_cons] at hk ⊢
      rw [List.drop_set_of_lt (by omega), List.take_succ_eq_append_getElem (by simp only [List.length_set]; omega), List.take_set_of_le (by omega)]
      simp [show k + 1 + vs.length = k + (vs.length + 1) from by omega]
    rw [e] at this
    exact this
theorem fr_setCellsB (b : Nat) : ∀ (vs : List Value) (o : Nat) (w : World), Fr (eqB b) w (w.setCells b o vs)
  | [], _, w => Fr.refl _ w
  | v :: vs, o, w => (fr_set1 w b o v).then' (fr_setCellsB b vs (o + 1) _)
theorem BlkAt.there {w : World} {b o n : Nat} {T : TypeId} {C : Array Value} (h : BlkAt w b T C) (hn : o + n ≤ C.size) : w.there b o n := fun j hj => by
  refine ⟨?_, h.free _⟩
  rw [h.cell (v := C[o + j]'(by omega)) (Array.getElem?_eq_getElem (by omega))]; rfl
theorem BlkAt.range {w : World} {b : Nat} {T : TypeId} {C : List Value} (h : BlkAt w b T C.toArray) (o : Nat) {cs : List Value} (hc : (C.drop o).take cs.length = cs) : w.rangeAt b o cs := fun j v hv => by
  refine h.cell ?_
  rw [List.getElem?_toArray, ← List.getElem?_drop]
  have hj := (List.getElem?_eq_some_iff.1 hv).1
  rw [← hc, List.getElem?_take_of_lt hj] at hv
  exact hv
section
variable {P : Program} {op : Oper} {a : Act} {w : World} {Q : Exit → Act → World → Prop} {T TB : TypeId} {x y : Operand} {b : Nat}
/-- A struct is stored into a block, at o: D is what lies there then. -/
theorem wp_store_blk {K : Act → World → Prop} (ho : op.op = .store T x y) {C vs D : List Value} (hb : BlkAt w b TB C.toArray) (o : Nat) (hx : a.eval x = .pointer (some ⟨b, o, none⟩)) (hy : a.eval y = .agg vs.toArray)
    (hi : (P.info? T).map (·.size) = some vs.length) (h1 : vs.all (·.oneCell') = true) (ho2 : o + vs.length ≤ C.length) (hD : C.take o ++ vs ++ C.drop (o + vs.length) = D)
    (h : ∀ w', Fr (eqB b) w w' → BlkAt w' b TB D.toArray → K (a.put op.dst undef) w') : op.wp P a w K Q := by
  refine wp_store_mid T x y ho b o vs.toArray hx hy (hb.there (by simpa using ho2)) (by simpa using hi) (by simpa using h1) ?_
  refine h _ (fr_setCellsB b _ o w) ?_
  have := BlkAt.setCells vs o w C hb ho2
  rw [hD] at this
  simpa using this
theorem wpList_store_blk {ops : Array Oper} {rest : List Oper} (hgd : op.guard = none) (ho : op.op = .store T x y) {C vs D : List Value} (hb : BlkAt w b TB C.toArray) (o : Nat) (hx : a.eval x = .pointer (some ⟨b, o, none⟩)) (hy : a.eval y = .agg vs.toArray)
    (hi : (P.info? T).map (·.size) = some vs.length) (h1 : vs.all (·.oneCell') = true) (ho2 : o + vs.length ≤ C.length) (hD : C.take o ++ vs ++ C.drop (o + vs.length) = D)
    (h : ∀ w', Fr (eqB b) w w' → BlkAt w' b TB D.toArray → wpList P ops Q rest (a.put op.dst undef) w') : wpList P ops Q (op :: rest) a w :=
  wpList_plain hgd fun _ hK => wp_store_blk ho hb o hx hy hi h1 ho2 hD fun w' f hb' => hK _ _ (h w' f hb')
theorem wp_load_blk {K : Act → World → Prop} {d : TypeDesc} (ho : op.op = .load T x) {C cs : List Value} (hb : BlkAt w b TB C.toArray) (o : Nat) (hx : a.eval x = .pointer (some ⟨b, o, none⟩)) (hc : (C.drop o).take cs.length = cs)
    (hu : P.underlying T = some d) (hd : d.isRow = true) (hi : (P.info? T).map (·.size) = some cs.length) (h : K (a.put op.dst (.agg cs.toArray)) w) : op.wp P a w K Q :=
  wp_load_mid T x ho b o hx cs d (hb.range o hc) hu hd hi h
theorem wpList_load_blk {ops : Array Oper} {rest : List Oper} {d : TypeDesc} (hgd : op.guard = none) (ho : op.op = .load T x) {C cs : List Value} (hb : BlkAt w b TB C.toArray) (o : Nat) (hx : a.eval x = .pointer (some ⟨b, o, none⟩)) (hc : (C.drop o).take cs.length = cs)
    (hu : P.underlying T = some d) (hd : d.isRow = true) (hi : (P.info? T).map (·.size) = some cs.length) (h : wpList P ops Q rest (a.put op.dst (.agg cs.toArray)) w) : wpList P ops Q (op :: rest) a w :=
  wpList_plain hgd fun _ hK => wp_load_blk ho hb o hx hc hu hd hi (hK _ _ h)
end
end Go.Proofs.Ytdngcheimohamaa
/- interrexref15.Put. -/
namespace Go.Proofs.Ytdngcheimohamaa
open Go.RowKit
theorem tabR_size {R : List TRow} (h : R.length = 8) : (Try.prog.info? 34).map (·.size) = some (R.flatMap TRow.C).length := by
  rw [flatC_len, h]; kernel_rfl
theorem flatC_one (R : List TRow) : (R.flatMap TRow.C).all (·.oneCell') = true := by
  rw [List.all_eq_true]
  intro v hv
  simp only [List.mem_flatMap, TRow.C, List.mem_cons, List.not_mem_nil, or_false] at hv
  obtain ⟨r, _, h⟩ := hv
  rcases h with rfl | rfl | rfl <;> rfl
/-- The row that is put. -/
def putRow (num e : Nat) (A : Option Addr) (n c : Nat) (l : List ByteArray) : TRow := if e = 0 then ⟨num, e, A, n, c, l⟩ else ⟨num, e, none, 0, 0, []⟩
def Z24 : List Value := [.int .u64 0, .int .i64 0, .slice none 0 0, .int .u64 0, .int .i64 0, .slice none 0 0, .int .u64 0, .int .i64 0, .slice none 0 0, .int .u64 0, .int .i64 0, .slice none 0 0, .int .u64 0, .int .i64 0, .slice none 0 0, .int .u64 0, .int .i64 0, .slice none 0 0, .int .u64 0, .int .i64 0, .slice none 0 0, .int .u64 0, .int .i64 0, .slice none 0 0]
theorem drop_all {α : Type} {l m : List α} (h : l.length = m.length) : l.drop m.length = [] := List.drop_of_length_le (by omega)
set_option maxRecDepth 100000 in
set_option maxHeartbeats 800000 in
theorem putR_no (w : World) (R : List TRow) (hR : R.length = 8) (i num e : Nat) (A : Option Addr) (n c : Nat) (k v : Nat) (hj : judgeV R i num = v) (hk : (v = 0 ∧ k = 1) ∨ (v = 1 ∧ k = 12) ∨ (v = 2 ∧ k = 12)) :
    Calls Try.prog 10 #[.agg (R.flatMap TRow.C).toArray, .int .u8 i, .int .u64 num, .agg #[.int .i64 e, .slice A n c]] w (fun ed w' => ed = .returned (.tuple #[.agg (R.flatMap TRow.C).toArray, .int .i64 k]) ∧ Fr noB w w') := by
  have hjr := fun W => judgeR_calls W R hR i num
  have hsz := tabR_size hR
  have hone := flatC_one R
  have hlen : (R.flatMap TRow.C).length = 24 := by rw [flatC_len, hR]
  rw [hj] at hjr
  generalize R.flatMap TRow.C = cs at *
  have hres : Hid (Try.f10.results = #[.cell 8 34, .tmp 9]) := by unfold Hid; kernel_rfl
  clear hj
  have f0 : Fr noB w (((w.alloc (.cells cs.toArray 34)).alloc (.cells #[.int .i64 e, .slice A n c] 30)).alloc (.cells #[.int .u64 0, .int .i64 0, .slice none 0 0, .int .u64 0, .int .i64 0, .slice none 0 0, .int .u64 0, .int .i64 0, .slice none 0 0, .int .u64 0, .int .i64 0, .slice none 0 0, .int .u64 0, .int .i64 0, .slice none 0 0, .int .u64 0, .int .i64 0, .slice none 0 0, .int .u64 0, .int .i64 0, .slice none 0 0, .int .u64 0, .int .i64 0, .slice none 0 0] 34)) := (((Fr.refl noB w).alloc _).alloc _).alloc _
  have hb4 : BlkAt (((w.alloc (.cells cs.toArray 34)).alloc (.cells #[.int .i64 e, .slice A n c] 30)).alloc (.cells #[.int .u64 0, .int .i64 0, .slice none 0 0, .int .u64 0, .int .i64 0, .slice none 0 0, .int .u64 0, .int .i64 0, .slice none 0 0, .int .u64 0, .int .i64 0, .slice none 0 0, .int .u64 0, .int .i64 0, .slice none 0 0, .int .u64 0, .int .i64 0, .slice none 0 0, .int .u64 0, .int .i64 0, .slice none 0 0, .int .u64 0, .int .i64 0, .slice none 0 0] 34)) w.heap.size 34 cs.toArray := ((BlkAt.new _ _ _).al _).al _
  have hb8 : BlkAt (((w.alloc (.cells cs.toArray 34)).alloc (.cells #[.int .i64 e, .slice A n c] 30)).alloc (.cells #[.int .u64 0, .int .i64 0, .slice none 0 0, .int .u64 0, .int .i64 0, .slice none 0 0, .int .u64 0, .int .i64 0, .slice none 0 0, .int .u64 0, .int .i64 0, .slice none 0 0, .int .u64 0, .int .i64 0, .slice none 0 0, .int .u64 0, .int .i64 0, .slice none 0 0, .int .u64 0, .int .i64 0, .slice none 0 0, .int .u64 0, .int .i64 0, .slice none 0 0] 34)) (w.heap.size + 1 + 1) 34 Z24.toArray := by
    have := BlkAt.new ((w.alloc (.cells cs.toArray 34)).alloc (.cells #[.int .i64 e, .slice A n c] 30)) #[.int .u64 0, .int .i64 0, .slice none 0 0, .int .u64 0, .int .i64 0, .slice none 0 0, .int .u64 0, .int .i64 0, .slice none 0 0, .int .u64 0, .int .i64 0, .slice none 0 0, .int .u64 0, .int .i64 0, .slice none 0 0, .int .u64 0, .int .i64 0, .slice none 0 0, .int .u64 0, .int .i64 0, .slice none 0 0, .int .u64 0, .int .i64 0, .slice none 0 0] 34
    rwa [al_size, al_size] at this
  have hD : Z24.take 0 ++ cs ++ Z24.drop (0 + cs.length) = cs := by rw [hlen]; simp [Z24]
  have hzl : Z24.length = 24 := rfl
  go_enter Try.func10, Try.ntmps10
  go_upto_region 1 with fail
  generalize (((w.alloc (.cells cs.toArray 34)).alloc (.cells #[.int .i64 e, .slice A n c] 30)).alloc (.cells #[.int .u64 0, .int .i64 0, .slice none 0 0, .int .u64 0, .int .i64 0, .slice none 0 0, .int .u64 0, .int .i64 0, .slice none 0 0, .int .u64 0, .int .i64 0, .slice none 0 0, .int .u64 0, .int .i64 0, .slice none 0 0, .int .u64 0, .int .i64 0, .slice none 0 0, .int .u64 0, .int .i64 0, .slice none 0 0, .int .u64 0, .int .i64 0, .slice none 0 0] 34)) = wa at *
  obtain ⟨pb, hpb⟩ : ∃ z, w.heap.size = z := ⟨_, rfl⟩
  rw [hpb] at hb4 hb8 ⊢
  go_wp2_with (refine wpList_load_blk rfl rfl hb4 0 rfl (cs := cs) (by rw [List.drop_zero, List.take_length]) Try.underlying34 rfl hsz ?_)
  refine (hjr wa).mono ?_
  rintro ed w1 ⟨rfl, f1⟩
  have F1 := f0.then' f1
  have hb4' := hb4.fr f1 id
  have hb8' := hb8.fr f1 id
  have hld := List.take_length (l := cs)
  generalize hZ : Z24 = z24 at *
  clear hjr f0 f1 hb4 hb8 hZ
  rcases hk with ⟨rfl, rfl⟩ | ⟨rfl, rfl⟩ | ⟨rfl, rfl⟩
  all_goals
    go_wp2_with (first | (refine wpList_load_blk rfl rfl hb4' 0 rfl (cs := cs) (by rw [List.drop_zero, List.take_length]) Try.underlying34 rfl hsz ?_) | (refine wpList_store_blk rfl rfl hb8' 0 rfl rfl hsz hone (by omega) hD ?_; intro w2 f2 hb9))
    exact bodyPost_ret (v := .tuple #[.agg cs.toArray, .int .i64 _]) (results_cell2 hres.out rfl (load_blk hb9 Try.underlying34 rfl (by simpa using hsz)) rfl) rfl ⟨rfl, F1.trans f2 (fun i hi h => by unfold eqB at h; omega)⟩
theorem flat_splice (r : TRow) : ∀ (R : List TRow) (i : Nat), i < R.length → (R.flatMap TRow.C).take (i * 3) ++ TRow.C r ++ (R.flatMap TRow.C).drop (i * 3 + (TRow.C r).length) = (R.set i r).flatMap TRow.C
  | [], i, h => by simp at h
  | b :: R, 0, _ => by simp [TRow.C]
  | b :: R, i + 1, h => by
    have ih := flat_splice r R i (by simpa using h)
    rw [List.set_cons_succ, List.flatMap_cons, List.flatMap_cons, ← ih]
    have e0 : (i + 1) * 3 = i * 3 + 3 := by omega
    have e1 : (TRow.C r).length = 3 := rfl
    rw [e0, e1]
    simp [TRow.C]
set_option maxRecDepth 100000 in
set_option maxHeartbeats 800000 in
theorem putR_yes (w : World) (R : List TRow) (hR : R.length = 8) (i num e : Nat) (A : Option Addr) (n c : Nat) (l : List ByteArray) (hj : judgeV R i num = 3) :
    Calls Try.prog 10 #[.agg (R.flatMap TRow.C).toArray, .int .u8 i, .int .u64 num, .agg #[.int .i64 e, .slice A n c]] w (fun ed w' => ed = .returned (.tuple #[.agg ((R.set i (putRow num e A n c l)).flatMap TRow.C).toArray, .int .i64 0]) ∧ Fr noB w w') := by
  have hjr := fun W => judgeR_calls W R hR i num
  have hi8 : i < 8 := by unfold judgeV at hj; split at hj <;> omega
  have hsz := tabR_size hR
  have hone := flatC_one R
  have hlen : (R.flatMap TRow.C).length = 24 := by rw [flatC_len, hR]
  have hR2 : (R.set i (putRow num e A n c l)).length = 8 := by rw [List.length_set, hR]
  have hsz2 := tabR_size hR2
  have hone2 := flatC_one (R.set i (putRow num e A n c l))
  have hlen2 : ((R.set i (putRow num e A n c l)).flatMap TRow.C).length = 24 := by rw [flatC_len, hR2]
  have hsp := flat_splice (putRow num e A n c l) R i (by omega)
  rw [hj] at hjr
  generalize (R.set i (putRow num e A n c l)).flatMap TRow.C = cs2 at *
  generalize R.flatMap TRow.C = cs at *
  have hres : Hid (Try.f10.results = #[.cell 8 34, .tmp 9]) := by unfold Hid; kernel_rfl
  clear hj hR2
  have f0 : Fr noB w (((w.alloc (.cells cs.toArray 34)).alloc (.cells #[.int .i64 e, .slice A n c] 30)).alloc (.cells #[.int .u64 0, .int .i64 0, .slice none 0 0, .int .u64 0, .int .i64 0, .slice none 0 0, .int .u64 0, .int .i64 0, .slice none 0 0, .int .u64 0, .int .i64 0, .slice none 0 0, .int .u64 0, .int .i64 0, .slice none 0 0, .int .u64 0, .int .i64 0, .slice none 0 0, .int .u64 0, .int .i64 0, .slice none 0 0, .int .u64 0, .int .i64 0, .slice none 0 0] 34)) := (((Fr.refl noB w).alloc _).alloc _).alloc _
  have hb4 : BlkAt (((w.alloc (.cells cs.toArray 34)).alloc (.cells #[.int .i64 e, .slice A n c] 30)).alloc (.cells #[.int .u64 0, .int .i64 0, .slice none 0 0, .int .u64 0, .int .i64 0, .slice none 0 0, .int .u64 0, .int .i64 0, .slice none 0 0, .int .u64 0, .int .i64 0, .slice none 0 0, .int .u64 0, .int .i64 0, .slice none 0 0, .int .u64 0, .int .i64 0, .slice none 0 0, .int .u64 0, .int .i64 0, .slice none 0 0, .int .u64 0, .int .i64 0, .slice none 0 0] 34)) w.heap.size 34 cs.toArray := ((BlkAt.new _ _ _).al _).al _
  have hb7 : BlkAt (((w.alloc (.cells cs.toArray 34)).alloc (.cells #[.int .i64 e, .slice A n c] 30)).alloc (.cells #[.int .u64 0, .int .i64 0, .slice none 0 0, .int .u64 0, .int .i64 0, .slice none 0 0, .int .u64 0, .int .i64 0, .slice none 0 0, .int .u64 0, .int .i64 0, .slice none 0 0, .int .u64 0, .int .i64 0, .slice none 0 0, .int .u64 0, .int .i64 0, .slice none 0 0, .int .u64 0, .int .i64 0, .slice none 0 0, .int .u64 0, .int .i64 0, .slice none 0 0] 34)) (w.heap.size + 1) 30 #[.int .i64 e, .slice A n c] := by
    have := (BlkAt.new (w.alloc (.cells cs.toArray 34)) #[.int .i64 e, .slice A n c] 30).al (.cells #[.int .u64 0, .int .i64 0, .slice none 0 0, .int .u64 0, .int .i64 0, .slice none 0 0, .int .u64 0, .int .i64 0, .slice none 0 0, .int .u64 0, .int .i64 0, .slice none 0 0, .int .u64 0, .int .i64 0, .slice none 0 0, .int .u64 0, .int .i64 0, .slice none 0 0, .int .u64 0, .int .i64 0, .slice none 0 0, .int .u64 0, .int .i64 0, .slice none 0 0] 34)
    rwa [al_size] at this
  have hb8 : BlkAt (((w.alloc (.cells cs.toArray 34)).alloc (.cells #[.int .i64 e, .slice A n c] 30)).alloc (.cells #[.int .u64 0, .int .i64 0, .slice none 0 0, .int .u64 0, .int .i64 0, .slice none 0 0, .int .u64 0, .int .i64 0, .slice none 0 0, .int .u64 0, .int .i64 0, .slice none 0 0, .int .u64 0, .int .i64 0, .slice none 0 0, .int .u64 0, .int .i64 0, .slice none 0 0, .int .u64 0, .int .i64 0, .slice none 0 0, .int .u64 0, .int .i64 0, .slice none 0 0] 34)) (w.heap.size + 1 + 1) 34 Z24.toArray := by
    have := BlkAt.new ((w.alloc (.cells cs.toArray 34)).alloc (.cells #[.int .i64 e, .slice A n c] 30)) #[.int .u64 0, .int .i64 0, .slice none 0 0, .int .u64 0, .int .i64 0, .slice none 0 0, .int .u64 0, .int .i64 0, .slice none 0 0, .int .u64 0, .int .i64 0, .slice none 0 0, .int .u64 0, .int .i64 0, .slice none 0 0, .int .u64 0, .int .i64 0, .slice none 0 0, .int .u64 0, .int .i64 0, .slice none 0 0, .int .u64 0, .int .i64 0, .slice none 0 0] 34
    rwa [al_size, al_size] at this
  have hD : Z24.take 0 ++ cs2 ++ Z24.drop (0 + cs2.length) = cs2 := by rw [hlen2]; simp [Z24]
  have hzl : Z24.length = 24 := rfl
  go_enter Try.func10, Try.ntmps10
  go_upto_region 1 with fail
  generalize (((w.alloc (.cells cs.toArray 34)).alloc (.cells #[.int .i64 e, .slice A n c] 30)).alloc (.cells #[.int .u64 0, .int .i64 0, .slice none 0 0, .int .u64 0, .int .i64 0, .slice none 0 0, .int .u64 0, .int .i64 0, .slice none 0 0, .int .u64 0, .int .i64 0, .slice none 0 0, .int .u64 0, .int .i64 0, .slice none 0 0, .int .u64 0, .int .i64 0, .slice none 0 0, .int .u64 0, .int .i64 0, .slice none 0 0, .int .u64 0, .int .i64 0, .slice none 0 0] 34)) = wa at *
  obtain ⟨pb, hpb⟩ : ∃ z, w.heap.size = z := ⟨_, rfl⟩
  rw [hpb] at hb4 hb7 hb8 ⊢
  go_wp2_with (refine wpList_load_blk rfl rfl hb4 0 rfl (cs := cs) (by rw [List.drop_zero, List.take_length]) Try.underlying34 rfl hsz ?_)
  refine (hjr wa).mono ?_
  rintro ed w1 ⟨rfl, f1⟩
  have F1 := f0.then' f1
  have hb4' := hb4.fr f1 id
  have hb7' := hb7.fr f1 id
  have hb8' := hb8.fr f1 id
  have hib : 0 ≤ (i : Int) ∧ (i : Int) < 8 := ⟨by omega, by omega⟩
  generalize hZ : Z24 = z24 at *
  clear hjr f0 f1 hb4 hb7 hb8 hZ
  by_cases he : e = 0
  · have te : ((e : Int) != 0) = false := by rw [bne_eq_false_iff_eq]; omega
    have hpr : TRow.C (putRow num e A n c l) = [.int .u64 num, .int .i64 e, .slice A n c] := by unfold putRow; rw [if_pos he]; rfl
    rw [hpr] at hsp
    obtain ⟨x0, x1, xf⟩ := BlkAt.c2 hb7'
    clear he hpr
    have HL := hid hsp
    clear hsp
    go_wp2_with (first | (refine wpList_store_blk rfl rfl hb4' (i * 3) rfl rfl (by kernel_rfl) (by kernel_rfl) (by simp only [List.length_cons, List.length_nil]; omega) HL.out ?_; intro w2 f2 hb5) | (refine wpList_load_blk rfl rfl hb5 0 rfl (cs := cs2) (by rw [List.drop_zero, List.take_length]) Try.underlying34 rfl hsz2 ?_) | (refine wpList_store_blk rfl rfl (hb8'.fr f2 (by unfold eqB; omega)) 0 rfl rfl hsz2 hone2 (by omega) hD ?_; intro w3 f3 hb9))
    exact bodyPost_ret (v := .tuple #[.agg cs2.toArray, .int .i64 _]) (results_cell2 hres.out rfl (load_blk hb9 Try.underlying34 rfl (by simpa using hsz2)) rfl) rfl ⟨rfl, (F1.trans f2 (fun i hi h => by unfold eqB at h; omega)).trans f3 (fun i hi h => by unfold eqB at h; omega)⟩
  · have te : ((e : Int) != 0) = true := by rw [bne_iff_ne]; omega
    have hpr : TRow.C (putRow num e A n c l) = [.int .u64 num, .int .i64 e, .slice none 0 0] := by unfold putRow; rw [if_neg he]; rfl
    rw [hpr] at hsp
    obtain ⟨x0, x1, xf⟩ := BlkAt.c2 hb7'
    clear he hpr
    have HL := hid hsp
    clear hsp
    go_upto_region 8 with fail
    have f1 := fr_set1 w1 (pb + 1) 1 (.slice none 0 0)
    have hb7 : BlkAt (w1.setCell ⟨pb + 1, 1, none⟩ (.slice none 0 0)) (pb + 1) 30 #[.int .i64 e, .slice none 0 0] := hb7'.set 1 (.slice none 0 0)
    replace hb4' := hb4'.fr f1 (by unfold eqB; omega)
    replace hb8' := hb8'.fr f1 (by unfold eqB; omega)
    replace F1 := F1.trans f1 (fun i hi h => by unfold eqB at h; omega)
    clear x0 x1 xf hb7'
    generalize (w1.setCell ⟨pb + 1, 1, none⟩ (.slice none 0 0)) = w8 at *
    obtain ⟨x0, x1, xf⟩ := BlkAt.c2 hb7
    clear f1
    go_wp2_with (first | (refine wpList_store_blk rfl rfl hb4' (i * 3) rfl rfl (by kernel_rfl) (by kernel_rfl) (by simp only [List.length_cons, List.length_nil]; omega) HL.out ?_; intro w2 f2 hb5) | (refine wpList_load_blk rfl rfl hb5 0 rfl (cs := cs2) (by rw [List.drop_zero, List.take_length]) Try.underlying34 rfl hsz2 ?_) | (refine wpList_store_blk rfl rfl (hb8'.fr f2 (by unfold eqB; omega)) 0 rfl rfl hsz2 hone2 (by omega) hD ?_; intro w3 f3 hb9))
    exact bodyPost_ret (v := .tuple #[.agg cs2.toArray, .int .i64 _]) (results_cell2 hres.out rfl (load_blk hb9 Try.underlying34 rfl (by simpa using hsz2)) rfl) rfl ⟨rfl, (F1.trans f2 (fun i hi h => by unfold eqB at h; omega)).trans f3 (fun i hi h => by unfold eqB at h; omega)⟩
end Go.Proofs.Ytdngcheimohamaa
/- interrexref15.Text. -/
namespace Go.Proofs.Ytdngcheimohamaa
open Go.RowKit
theorem tabR_index {R : List TRow} {i : Nat} {r : TRow} (hl : R.length = 8) (hr : R[i]? = some r) (w : World) : (Instr.index 34 (.agg (R.flatMap TRow.C).toArray) (.int .i64 i)).run Try.prog w = .ok (.agg #[.int .u64 r.num, .int .i64 r.e, .slice r.A r.n r.c]) w := by
  have hi : i < 8 := by have := (List.getElem?_eq_some_iff.1 hr).1; omega
  have hu : Try.prog.underlying 34 = some (.array 8 32) := Try.underlying34
  have hs : (sizeOf 32).run Try.prog w = .ok 3 w := by kernel_rfl
  have h1 : 0 ≤ (i : Int) ∧ (i : Int) < (8 : Nat) := ⟨by omega, by omega⟩
  unfold Instr.index
  simp only [asIntOf, Sem.run_bind, Sem.run_pure, Result.andThen_ok, run_underlying hu w, h1, and_self, if_true, hs]
  have ha : (isAgg 32).run Try.prog w = .ok true w := by kernel_rfl
  have he : (R.flatMap TRow.C).toArray.extract (i * 3) (i * 3 + 3) = #[.int .u64 r.num, .int .i64 r.e, .slice r.A r.n r.c] := by
    have hg := fun j b => flat_get TRow.C 3 (fun _ => rfl) R i j r b hr
    have hlen : i * 3 + 3 ≤ (R.flatMap TRow.C).length := by rw [flatC_len, hl]; omega
    apply Array.ext'
    apply List.ext_getElem?
    intro j
    simp only [Array.toList_extract, List.extract_eq_take_drop, List.getElem?_take, List.getElem?_drop]
    by_cases hj : j < 3
    · rw [if_pos (by omega)]
      rcases (by omega : j = 0 ∨ j = 1 ∨ j = 2) with rfl | rfl | rfl
      · exact hg 0 _ rfl
      · exact hg 1 _ rfl
      · exact hg 2 _ rfl
    · rw [if_neg (by omega)]
      rcases j with _ | _ | _ | j <;> first | omega | rfl
  unfold part
  simp only [Sem.run_bind, ha, Result.andThen_ok, if_true, hs, Sem.run_pure, Int.toNat_natCast, he]
/-- A row of the reference's table, as it reads. -/
structure TRow.RA (r : TRow) (w : World) : Prop where
  len : r.l.length = r.n
  row : RowAt w r.A (strs r.l)
  nil : r.A = none → r.n = 0 ∧ r.c = 0
  good : Good3 r.abs
theorem TRow.RA.fr0 {r : TRow} {w w' : World} (h : r.RA w) (f : Fr noB w w') : r.RA w' := ⟨h.len, h.row.fr0 f, h.nil, h.good⟩
theorem TRow.RA.rep {r : TRow} {w : World} (h : r.RA w) : textR (mkS (repR r.e r.l)) = textB (mkS (repB r.e r.l)) ∧ (repR r.e r.l).length ≤ 50003 := by
  have hs : ∀ s ∈ r.l, s.size ≤ 65535 := fun s hs => by have := h.good.small s hs; omega
  have hl : r.l.length ≤ 65535 := by have := h.good.few; simp only [TRow.abs] at this; omega
  have h1 : sumSz r.l ≤ 50000 := h.good.sum
  have h2 := repB_length r.e r.l
  rw [repB_repR hl hs]
  refine ⟨textR_eq (by rw [mkS_size]; omega), by omega⟩
theorem tblB_part {R : List TRow} {w : World} (hA : ∀ r ∈ R, r.RA w) (k : Nat) : (tblB ((R.take k).map TRow.abs)).length ≤ k * 1000100 := by
  have h1 := tblB_length ((R.take k).map TRow.abs) (fun x hx => by
    obtain ⟨r, hr, rfl⟩ := List.mem_map.1 hx
    have := (hA r (List.mem_of_mem_take hr)).good.sum; omega)
  have h2 : ((R.take k).map TRow.abs).length ≤ k := by rw [List.length_map, List.length_take]; omega
  have h3 : ((R.take k).map TRow.abs).length * 1000100 ≤ k * 1000100 := Nat.mul_le_mul_right _ h2
  omega
theorem tblB_snoc {R : List TRow} {k : Nat} {r : TRow} (h : R[k]? = some r) : tblB ((R.take (k + 1)).map TRow.abs) = tblB ((R.take k).map TRow.abs) ++ rowT r.abs := by
  unfold tblB
  rw [take_snoc' h, List.map_append, List.flatMap_append]; simp
set_option maxRecDepth 100000 in
set_option maxHeartbeats 800000 in
theorem textT_calls (w : World) (R : List TRow) (hR : R.length = 8) (hA : ∀ r ∈ R, r.RA w) : Calls Try.prog 53 #[.agg (R.flatMap TRow.C).toArray] w (StrPost w (tblB (R.map TRow.abs))) := by
  have hsz := tabR_size hR
  have hix := fun (i : Nat) (r : TRow) (hr : R[i]? = some r) => tabR_index hR hr
  obtain ⟨cs, hcs⟩ : ∃ cs, R.flatMap TRow.C = cs := ⟨_, rfl⟩
  rw [hcs] at hsz hix ⊢
  have f0 : Fr noB w (w.alloc (.cells cs.toArray 34)) := (Fr.refl noB w).alloc _
  have hb0 : BlkAt (w.alloc (.cells cs.toArray 34)) w.heap.size 34 cs.toArray := BlkAt.new _ _ _
  have HL := hid hR
  have HC := hid hcs
  clear hR hcs
  go_enter Try.func53, Try.ntmps53
  go_upto_region 1 with fail
  generalize (w.alloc (.cells cs.toArray 34)) = wa at *
  generalize w.heap.size = q at *
  go_wp2_with (refine wpList_load_blk rfl rfl hb0 0 rfl (cs := cs) (by rw [List.drop_zero, List.take_length]) Try.underlying34 rfl hsz ?_)
  go_loopw [3, 7] (fun v i wr => ∃ k : Nat, k ≤ 8 ∧ i = .int .i64 k ∧ v = .string (mkS (tblB ((R.take k).map TRow.abs))) ∧ Fr noB w wr) (fun _ i _ => 8 - (intOf i).toNat)
  case atStart => exact ⟨0, by omega, rfl, rfl, f0⟩
  case round =>
    clear hb0 f0
    obtain ⟨k, hk, rfl, rfl, hf⟩ := hrel
    by_cases hk8 : k < 8
    · obtain ⟨r, hr⟩ : ∃ r, R[k]? = some r := ⟨_, List.getElem?_eq_getElem (by rw [HL.out]; exact hk8)⟩
      have hri := hix k r hr
      have hra := hA r (List.mem_of_getElem? hr)
      have HS := hid (tblB_snoc hr)
      have hln := tblB_part hA k
      obtain ⟨hrep, hrl⟩ := hra.rep
      have hput := fun W (f : Fr noB w W) => opPutR_calls W r.e r.A r.n r.c r.l (by have := hra.good.e; simp only [TRow.abs] at this; omega) (hra.row.fr0 f) (hid hra.len) (by have := hra.good.sum; simp only [TRow.abs] at this; omega) (by have := hra.good.few; simp only [TRow.abs] at this; rw [← hra.len]; omega)
      have hnum : r.num ≤ 18446744073709551615 := by have := hra.good.num; simp only [TRow.abs] at this; omega
      have hnr := fun W => numR_calls W r.num 8 hnum (by omega)
      have htx := fun W => textR_calls W (mkS (repR r.e r.l)) (by rw [mkS_size]; omega)
      rw [hrep] at htx
      have hrw : Hid (rowT r.abs = leB 8 r.num ++ (if 0 < r.num then textB (mkS (repB r.e r.l)) else [])) := rfl
      have hnl : (mkS (leB 8 r.num)).size = 8 := by rw [mkS_size, leB_length]
      have htl : (mkS (textB (mkS (repB r.e r.l)))).size ≤ 50100 := by rw [← hrep, mkS_size, textR_length, mkS_size]; omega
      have hpos : (((mkS (tblB ((R.take k).map TRow.abs))) ++ mkS (leB 8 r.num)).size + (mkS (textB (mkS (repB r.e r.l)))).size ≤ 9223372036854775807) := by
        rw [mkS_append, mkS_size, List.length_append, leB_length]; omega
      have hpos0 : (mkS (tblB ((R.take k).map TRow.abs))).size + (mkS (leB 8 r.num)).size ≤ 9223372036854775807 := by rw [hnl, mkS_size]; omega
      have hb5 : BlkAt (wr.alloc (.cells #[.int .u64 0, .int .i64 0, .slice none 0 0] 32)) wr.heap.size 32 #[.int .u64 0, .int .i64 0, .slice none 0 0] := BlkAt.new _ _ _
      have f5 : Fr noB w (wr.alloc (.cells #[.int .u64 0, .int .i64 0, .slice none 0 0] 32)) := hf.alloc _
      have hq5 := hf.size
      generalize hm1 : mkS (tblB ((R.take k).map TRow.abs)) = s1 at *
      generalize hm3 : textB (mkS (repB r.e r.l)) = b3 at *
      generalize hm2 : leB 8 r.num = b2 at *
      generalize hm4 : repR r.e r.l = b4 at *
      have HM := hid (And.intro hm1 (And.intro hm2 hm3))
      clear hm1 hm2 hm3 hm4 hra hr hrep hrl hln hnl htl
      obtain ⟨b, hb⟩ : ∃ b, decide (0 < (r.num : Int)) = b := ⟨_, rfl⟩
      have hb' : decide (0 < r.num) = b := by rw [← hb]; exact decide_eq_decide.2 (by omega)
      have HN := hid hb'
      have hz : (mkS []) = ByteArray.empty := rfl
      generalize r.num = num at *
      generalize r.A = A at *
      generalize r.n = n at *
      generalize r.c = c at *
      generalize r.e = e at *
      cases b
      · go_upto_region 5 with (refine wpList_store_blk rfl rfl hb5 0 (vs := [.int .u64 num, .int .i64 e, .slice A n c]) rfl rfl (by kernel_rfl) (by kernel_rfl) (by simp) rfl ?_; intro w6 f6 hb6)
        have F6 := f5.trans f6 (fun i hi h => by unfold eqB at h; omega)
        obtain ⟨x0, x1, x2, xf⟩ := BlkAt.c3 hb6
        clear hb5 f5 f6
        go_wp2_with fail
        refine (hnr w6).mono ?_
        rintro ed w7 ⟨rfl, f7⟩
        have hb7 := hb6.fr f7 id
        have F7 := F6.then' f7
        clear x0 x1 x2 xf hb6 F6 f7
        obtain ⟨x0, x1, x2, xf⟩ := BlkAt.c3 hb7
        have HE : Hid (s1 ++ mkS b2 = mkS (tblB ((R.take (k + 1)).map TRow.abs))) := by
          unfold Hid
          rw [HS.out, hrw.out, ← HM.out.1, mkS_append, if_neg (of_decide_eq_false HN.out), List.append_nil]
        go_wp2_with fail
        go_roundw
        case rel => exact ⟨k + 1, by omega, by go_num, by rw [HE.out], F7⟩
        case measure => simp [intOf]; omega
      · go_upto_region 5 with (refine wpList_store_blk rfl rfl hb5 0 (vs := [.int .u64 num, .int .i64 e, .slice A n c]) rfl rfl (by kernel_rfl) (by kernel_rfl) (by simp) rfl ?_; intro w6 f6 hb6)
        have F6 := f5.trans f6 (fun i hi h => by unfold eqB at h; omega)
        obtain ⟨x0, x1, x2, xf⟩ := BlkAt.c3 hb6
        clear hb5 f5 f6
        go_wp2_with fail
        refine (hnr w6).mono ?_
        rintro ed w7 ⟨rfl, f7⟩
        have hb7 := hb6.fr f7 id
        have F7 := F6.then' f7
        clear x0 x1 x2 xf hb6 F6 f7
        obtain ⟨x0, x1, x2, xf⟩ := BlkAt.c3 hb7
        have HE : Hid ((s1 ++ mkS b2) ++ mkS b3 = mkS (tblB ((R.take (k + 1)).map TRow.abs))) := by
          unfold Hid
          rw [HS.out, hrw.out, ← HM.out.1, mkS_append, if_pos (of_decide_eq_true HN.out), mkS_append, List.append_assoc]
        go_wp2_with fail
        refine (hput w7 F7).mono ?_
        rintro ed w8 ⟨rfl, f8⟩
        have F8 := F7.then' f8
        clear F7 f8 x0 x1 x2 xf hb7
        go_wp2_with fail
        refine (htx w8).mono ?_
        rintro ed w9 ⟨rfl, f9⟩
        have F9 := F8.then' f9
        clear F8 f9
        go_wp2_with fail
        go_roundw
        case rel => exact ⟨k + 1, by omega, by go_num, by rw [HE.out], F9⟩
        case measure => simp [intOf]; omega
    · obtain rfl : k = 8 := by omega
      rw [List.take_of_length_le (by rw [HL.out]; omega)]
      go_wp2_with fail
      go_ret
      exact ⟨rfl, hf⟩
end Go.Proofs.Ytdngcheimohamaa
