/- What the row leans on, part 6: contracts and plain laws. -/
import Derived.Test.YtdngcheimohamaaDoorProg
import Derived.WalkKit
import Derived.Maps.AppendAt
import Derived.Lib.AppendStr
import Derived.Laws.AppendOwnNone
import Derived.Deep.Draws
import Derived.WalkSpells
import Derived.Laws.IdiomStrings
import Derived.Lib.ConvBytes
import Derived.Lib.LaidTab
import Derived.LaidSub
import Derived.Deep.QuietTactic
import Derived.BigQuiet
import Derived.Lib.OthersKept
import Derived.Laws.RangeAny
import Derived.LaidEqlPtr
import Derived.Laws.StructEq
import Derived.Deep.Light
import Derived.Laws.Bits64b
import Derived.Laws.ResultCell
import Derived.Deep.RegionHeld3
import Derived.Deep.Cut
import Derived.SliceStrings
import Derived.Deep.Slices
import Derived.ProofKit
import Derived.Test.YtdngcheimohamaaDoorLawEntryRowsB5
/- interrexlaw19.EntryRows: the walk. -/
namespace Go.Proofs.YtdngcheimohamaaDoor
open Go.RowKit
theorem firstErr_snoc (r : List EnV) (e : EnV) : firstErr (r ++ [e]) = if firstErr r ≠ 0 then firstErr r else checkE e := by
  induction r with
  | nil => simp [firstErr]; exact fun h => h.symm
  | cons x r ih =>
    have e1 : firstErr (x :: r) = if checkE x ≠ 0 then checkE x else firstErr r := rfl
    have e2 : firstErr (x :: r ++ [e]) = if checkE x ≠ 0 then checkE x else firstErr (r ++ [e]) := rfl
    by_cases h : checkE x = 0
    · have h1 : firstErr (x :: r) = firstErr r := by rw [e1, if_neg (fun g => g h)]
      have h2 : firstErr (x :: r ++ [e]) = firstErr (r ++ [e]) := by rw [e2, if_neg (fun g => g h)]
      rw [h1, h2]; exact ih
    · have h1 : firstErr (x :: r) = checkE x := by rw [e1, if_pos h]
      have h2 : firstErr (x :: r ++ [e]) = checkE x := by rw [e2, if_pos h]
      rw [h1, h2, if_pos h]
theorem enRow_app (l : List EnV) (h : ∀ e ∈ l, e.wf ∧ checkE e = 0) (es : List EnV) : enRow l.length ⟨rowsB l, 0⟩ es = (⟨[], 0⟩, es ++ l) := by
  induction l generalizing es with
  | nil => simp [enRow, rowsB]
  | cons e l ih =>
    have h1 := h e (by simp)
    have hl := enB_length h1.2
    have ht := rText_app (mkS (enB e)) (rowsB l) 91 (by rw [mkS_size]; omega) (by rw [mkS_size]; omega)
    rw [mkS_data] at ht
    have hb : rowsB (e :: l) = textB (mkS (enB e)) ++ rowsB l := by simp [rowsB]
    rw [List.length_cons, hb]
    unfold enRow
    rw [ht]
    simp only []
    simp only [enRead_write h1.1 h1.2]
    rw [if_neg (by simp), if_neg (by simp)]
    rw [ih (fun x hx => h x (by simp [hx])) (es ++ [e])]
    simp
theorem enGet_app (l : List EnV) (h : ∀ e ∈ l, e.wf ∧ checkE e = 0) (hn : l.length ≤ 20) : enGet ⟨leB 2 l.length ++ rowsB l, 0⟩ = (⟨[], 0⟩, l) := by
  unfold enGet
  rw [rNum_app]
  simp only []
  rw [Nat.mod_eq_of_lt (by have : (256 : Nat) ^ 2 = 65536 := by decide
                           omega), enRow_app l h []]
  simp
theorem rowE_eq (l : List EnV) (h : ∀ e ∈ l, checkE e = 0) : rowE l = leB 2 l.length ++ rowsB l := by
  unfold rowE
  congr 1
  unfold rowsE rowsB
  induction l with
  | nil => rfl
  | cons e l ih =>
    have h1 := h e (by simp)
    have hl := enB_length h1
    simp only [List.flatMap_cons]
    rw [ih (fun x hx => h x (by simp [hx])), textE_eq h1, textR_eq (by rw [mkS_size]; omega)]
set_option maxRecDepth 100000 in
theorem run_slice1 (w : World) (ad : Addr) (n c : Nat) (hn : 2 ≤ n) (hc : n ≤ c) : (Instr.slice 33 (.slice (some ad) n c) (some (.int .i64 1)) none none).run Tryd.prog w = .ok (.slice (some (ad.add 1)) (n - 1) (c - 1)) w := by
  have hu : Tryd.prog.underlying 33 = some (.slice 5) := Tryd.underlying33
  have hs : (sizeOf 5).run Tryd.prog w = .ok 1 w := by kernel_rfl
  have hb : (0 : Int) ≤ 1 ∧ (1 : Int) ≤ n := ⟨by omega, by omega⟩
  simp [Instr.slice, Instr.sliceBounds, Instr.sliceBound, asIntOf, run_underlying hu, hs, hb, go_sem]
  first | done | (intro h; omega) | omega
theorem row_tail {w : World} {ad : Addr} {x : Value} {xs : List Value} (h : RowAt w (some ad) (x :: xs)) : RowAt w (some (ad.add 1)) xs := fun j v hv => by
  obtain ⟨a, e, hc⟩ := h (j + 1) v (by simpa using hv)
  cases e
  refine ⟨_, rfl, ?_⟩
  have : (ad.add 1).add j = ad.add (j + 1) := by
    unfold Addr.add
    by_cases hj : j = 0
    · subst hj; simp
    · simp [hj]; omega
  rw [this]; exact hc
def RowBy (m : Nat) (xs : List UInt8) : Stb (Fr noB) := ⟨fun v W => ∃ ad c, v = .slice (some ad) m c ∧ m ≤ c ∧ RowAt W (some ad) (bcells xs), fun _ _ _ ⟨ad, c, h1, h2, h3⟩ f => ⟨ad, c, h1, h2, h3.fr0 f⟩⟩
def RowEn (l : List EnV) (n : Nat) : Stb (Fr noB) := ⟨fun v W => ∃ A c, v = .slice A n c ∧ EnsA W A n c l, fun _ _ _ ⟨A, c, h1, h2⟩ f => ⟨A, c, h1, h2.fr0 f⟩⟩
theorem own_le {w : World} {base n : Nat} {e : TypeId} {size : Nat} {A : Option Addr} {m c : Nat} {xs : List Value} (h : w.ownsRow base e size (.slice A m c) n xs) : m ≤ c := by
  rcases h.2 with ⟨e1, _⟩ | ⟨g, cap, cur, e1, hb, _, hc, hm, _⟩
  · injection e1 with h0 h1 h2; subst h1 h2; exact Nat.le_refl _
  · injection e1 with h0 h1 h2; subst h1 h2; exact hc
set_option maxRecDepth 100000 in
set_option maxHeartbeats 6400000 in
theorem entryRows_walk (w : World) (ht : SignsAt w) (A : Option Addr) (n c : Nat) (l : List EnV) (hrow : RowAt w A (l.flatMap EnV.C)) (HN : Hid (l.length = n)) (hok : ∀ e ∈ l, EnOK e) :
    Calls Tryd.prog 7 #[.slice A n c] w (BoolPost w true) := by
  by_cases h20 : 20 < n
  · have d1 : decide ((20 : Int) < n) = true := decide_eq_true (by omega)
    go_enter Tryd.func7, Tryd.ntmps7
    go_wp2_with fail
    refine (lives19_calls w ht).mono ?_
    rintro e w1 ⟨rfl, f1⟩
    go_wp2_with fail
    refine (lives19_calls w1 (ht.fr0 f1)).mono ?_
    rintro e w2 ⟨rfl, f2⟩
    go_wp2_with fail
    go_ret
    exact BoolPost.mk' rfl (f1.then' f2)
  · have d1 : decide ((20 : Int) < n) = false := decide_eq_false (by omega)
    have hn : n ≤ 20 := by omega
    clear h20
    go_enter Tryd.func7, Tryd.ntmps7
    go_wp2_with fail
    refine (lives19_calls w ht).mono ?_
    rintro e w1 ⟨rfl, f1⟩
    go_wp2_with fail
    go_loopw [3, 20] (fun v i wr => ∃ j : Nat, j ≤ n ∧ i = .int .i64 j ∧ v = .int .i64 (firstErr (l.take j) : Nat) ∧ (∀ e ∈ l.take j, e.o.a.size ≤ 200 ∧ e.o.b.size ≤ 200) ∧ Fr noB w wr) (fun _ i _ => n - (intOf i).toNat)
    case atStart => exact ⟨0, Nat.zero_le _, rfl, rfl, fun e he => by simp at he, f1⟩
    case round =>
      clear f1
      obtain ⟨j, hj, rfl, rfl, hall, hf⟩ := hrel
      by_cases hjn : j < n
      · obtain ⟨e, he⟩ : ∃ e, l[j]? = some e := ⟨_, List.getElem?_eq_getElem (by rw [HN.out]; exact hjn)⟩
        obtain ⟨ad, rfl⟩ := hrow.some_flat (by simp [EnV.C]) he
        obtain ⟨z0, z1, z2, z3, z4, z5, z6, z7, z8⟩ := ((hrow.seg 9 (fun _ => rfl) he).fr hf id).c9
        have hwf := (hok e (List.mem_of_getElem? he)).wf
        have hsn := take_snoc' he
        have HFE : Hid (firstErr (l.take (j + 1)) = if firstErr (l.take j) ≠ 0 then firstErr (l.take j) else checkE e) := by unfold Hid; rw [hsn, firstErr_snoc]
        have hal2 : e.o.a.size ≤ 200 ∧ e.o.b.size ≤ 200 → ∀ x ∈ l.take (j + 1), x.o.a.size ≤ 200 ∧ x.o.b.size ≤ 200 := fun h0 x hx => by
          rw [hsn] at hx
          rcases List.mem_append.1 hx with hx | hx
          · exact hall x hx
          · simp only [List.mem_singleton] at hx; rw [hx]; exact h0
        have hlit := fun W => little_calls W e
        have hrf := fun W => ref19_calls W e
        have hcr := fun W h => checkEr_calls W e hwf (Nat.le_trans (And.left h) (by decide)) (Nat.le_trans (And.right (a := e.o.a.size ≤ 200) (b := e.o.b.size ≤ 200) h) (by decide))
        have fa : Fr noB wr (wr.alloc (.cells e.C.toArray 49)) := (Fr.refl noB wr).alloc _
        have hba : BlkAt (wr.alloc (.cells e.C.toArray 49)) wr.heap.size 49 e.C.toArray := BlkAt.new _ _ _
        have hF := hf.then' fa
        generalize checkE e = cv at *
        generalize hfe : firstErr (l.take j) = fe at *
        obtain ⟨fn, hfn⟩ : ∃ x, firstErr (l.take (j + 1)) = x := ⟨_, rfl⟩
        rw [hfn] at HFE
        have HFN := hid hfn
        clear hfe hfn
        cases hlt : (decide (e.o.a.size ≤ 200) && decide (e.o.b.size ≤ 200)) with
        | false =>
          rw [hlt] at hlit
          obtain ⟨op, view, cl, num, ⟨k, oa, ob, on, or⟩⟩ := e
          unfold EnV.C at fa hba hF
          unfold EnV.v at hlit
          simp only [] at *
          clear he hwf hf hsn hall hal2 hrf hcr hlt
          go_upto_region 7 with fail
          generalize hwa : (wr.alloc (.cells #[.int .u64 op, .int .u64 view, .int .u8 cl, .int .u64 num, .int .u8 k, .string oa, .string ob, .int .u8 on, .int .u8 or] 49)) = wb at *
          clear hwa z0 z1 z2 z3 z4 z5 z6 z7 z8 fa
          obtain ⟨z0, z1, z2, z3, z4, z5, z6, z7, z8, zf⟩ := BlkAt.c9 hba
          go_wp2_with fail
          refine (hlit wb).mono ?_
          rintro ed w2 ⟨rfl, f2⟩
          go_wp2_with fail
          go_ret
          exact BoolPost.mk' rfl (hF.then' f2)
        | true =>
          rw [hlt] at hlit
          simp only [Bool.and_eq_true, decide_eq_true_eq] at hlt
          have hal3 := hal2 hlt
          have hcr' := fun W => hcr W hlt
          obtain ⟨op, view, cl, num, ⟨k, oa, ob, on, or⟩⟩ := e
          unfold EnV.C at fa hba hF
          unfold EnV.v at hlit hrf hcr'
          simp only [] at *
          clear he hwf hf hsn hall hal2 hcr hlt
          go_upto_region 7 with fail
          generalize hwa : (wr.alloc (.cells #[.int .u64 op, .int .u64 view, .int .u8 cl, .int .u64 num, .int .u8 k, .string oa, .string ob, .int .u8 on, .int .u8 or] 49)) = wb at *
          clear hwa z0 z1 z2 z3 z4 z5 z6 z7 z8 fa
          obtain ⟨z0, z1, z2, z3, z4, z5, z6, z7, z8, zf⟩ := BlkAt.c9 hba
          by_cases hf0 : fe = 0
          · rw [if_neg (by omega)] at HFE
            subst hf0
            go_wp2_with fail
            refine (hlit wb).mono ?_
            rintro ed w2 ⟨rfl, f2⟩
            replace hba := hba.fr f2 id
            replace hF := hF.then' f2
            clear hlit f2 z0 z1 z2 z3 z4 z5 z6 z7 z8 zf
            obtain ⟨z0, z1, z2, z3, z4, z5, z6, z7, z8, zf⟩ := BlkAt.c9 hba
            go_wp2_with fail
            refine (hrf w2).mono ?_
            rintro ed w3 ⟨rfl, f3⟩
            clear z0 z1 z2 z3 z4 z5 z6 z7 z8 zf hba hrf
            go_wp2_with fail
            refine (hcr' w3).mono ?_
            rintro ed w4 ⟨rfl, f4⟩
            have F4 := (hF.then' f3).then' f4
            clear hcr' hF f3 f4
            go_wp2_with fail
            go_roundw
            case rel => exact ⟨j + 1, by omega, by go_num, by rw [HFN.out, HFE.out], hal3, F4⟩
            case measure => simp [intOf]; omega
          · rw [if_pos hf0] at HFE
            have t1 : ((fe : Int) == 0) = false := by rw [beq_eq_false_iff_ne]; omega
            clear hf0
            go_wp2_with fail
            refine (hlit wb).mono ?_
            rintro ed w2 ⟨rfl, f2⟩
            have F2 := hF.then' f2
            clear z0 z1 z2 z3 z4 z5 z6 z7 z8 zf hba hrf hF f2 hlit
            go_wp2_with fail
            go_roundw
            case rel => exact ⟨j + 1, by omega, by go_num, by rw [HFN.out, HFE.out], hal3, F2⟩
            case measure => simp [intOf]; omega
      · have : j = n := by omega
        subst this
        rw [List.take_of_length_le (by rw [HN.out]; exact Nat.le_refl _)] at hall ⊢
        have hok' : ∀ e ∈ l, e.wf ∧ e.o.a.size ≤ 200 ∧ e.o.b.size ≤ 200 := fun e he => ⟨(hok e he).wf, hall e he⟩
        clear hok hall d1
        have hw0 := WrAt.new wr
        have f0 : Fr noB wr (wr.alloc (.cells #[.slice none 0 0] 80)) := (Fr.refl noB wr).alloc _
        go_wp2_with fail
        generalize (wr.alloc (.cells #[.slice none 0 0] 80)) = wa at *
        obtain ⟨q, hq⟩ : ∃ z, wr.heap.size = z := ⟨_, rfl⟩
        rw [hq] at hw0 ⊢
        refine (byte_calls wa (upB q) q [] 9 hw0 (by decide) (by decide)).mono ?_
        rintro ed w2 ⟨rfl, h2, f2⟩
        have hqw : w.heap.size ≤ q := by have := hf.size; omega
        have hqa : q ≤ wa.heap.size := by have := f0.size; omega
        have F2 : Fr noB w w2 := (hf.then' f0).trans f2 (fun i hi h => by unfold upB at h; omega)
        have hW2 : WrAt w2 (upB q) q [9] := h2.up' hqa
        have hqq := hW2
        clear hw0 h2 f2 f0 hf hq hqq
        have hq2 : q ≤ w2.heap.size := by obtain ⟨_, _, _, _, _, _, hh, _⟩ := hW2.open'; have := (Array.getElem?_eq_some_iff.1 hh).1; omega
        clear hqa
        have hput := putRow_calls w2 (upB q) q [9] A j c l (ht.fr0 F2) hW2 (by decide) (hrow.fr0 F2) HN hn hok'
        have hfea := firstErr_all (l := l)
        unfold PutRPost at hput
        generalize firstErr l = fe at *
        have hne : ((fe : Int) != fe) = false := by simp
        by_cases hfe : fe = 0
        · simp only [if_pos hfe] at hput
          have hce := hfea hfe
          have hrl := rowsB_length l hce
          have hgl := enGet_app l (fun e he => ⟨(hok' e he).1, hce e he⟩) (by rw [HN.out]; exact hn)
          have hre := rowE_eq l hce
          rw [HN.out] at hput hrl hgl hre
          have hb0l : (leB 2 j ++ rowsB l).length ≤ 2000 := by rw [List.length_append, leB_length]; omega
          have hb0p : 1 ≤ (leB 2 j ++ rowsB l).length := by rw [List.length_append, leB_length]; omega
          generalize leB 2 j ++ rowsB l = bs0 at *
          have hnum : rNum ⟨9 :: bs0, 0⟩ 1 = (⟨bs0, 0⟩, 9) := rNum_app 1 9 bs0
          have heq : ((mkS bs0).toList == (mkS bs0).toList) = true := by simp
          have hb2l : ∃ m, (9 :: bs0).length = m := ⟨_, rfl⟩
          obtain ⟨m, hm⟩ := hb2l
          have hm1 : bs0.length = m - 1 := by rw [← hm]; simp
          have hml : m ≤ 2001 := by rw [← hm]; simp; omega
          have hbpos : 2 ≤ m := by rw [← hm]; simp; omega
          have HM := hid hm
          have HM1 := hid hm1
          subst hfe
          clear hfea hce hrl hm hm1 hb0l hb0p
          go_wp2_with fail
          refine hput.mono ?_
          rintro ed w3 ⟨rfl, h3, f3⟩
          have hW3 : WrAt w3 (upB q) q (9 :: bs0) := h3.up' hq2
          have F3 : Fr noB w w3 := F2.trans f3 (fun i hi h => by unfold upB at h; omega)
          clear hput h3 f3 F2 hW2
          go_wp2_with fail
          have hby := bytes_calls w3 (upB q) q (9 :: bs0) hW3 (by rw [HM.out]; omega)
          rw [HM.out] at hby
          refine hby.mono ?_
          rintro ed w4 ⟨A4, c4, rfl, h4, f4⟩
          have hW4 := (hW3.fr f4 (fun _ _ _ => id)).mono (T := fun k => q ≤ k ∧ k < w4.heap.size) (fun k hk hs => ⟨hs, hk⟩)
          have F4 := F3.then' f4
          have hr4 := own_row h4
          have hn4 := own_nil h4
          clear hby h4 f4 hW3 F3
          go_wp2_with fail
          refine (of_calls w4 A4 m c4 (9 :: bs0) hr4 HM.out hn4 (by omega)).mono ?_
          rintro ed w5 ⟨p, rfl, hp1, hp2, h5, f5⟩
          have hi5 := h5.inn
          have F5 := F4.then' f5
          have hw45 := F4.size
          obtain ⟨S, hS, HSd⟩ : ∃ S : Nat → Prop, RdAt w5 S p ⟨9 :: bs0, 0⟩ ∧ ∀ k, S k → w4.heap.size ≤ k ∧ k < w5.heap.size := ⟨_, hi5, fun k hk => ⟨hk.1, hk.2⟩⟩
          have hW5 := hW4.fr f5 (fun _ _ _ => id)
          have hrb := byteRd_calls w5 S p ⟨9 :: bs0, 0⟩ hS
          rw [hnum] at hrb
          simp only [] at hrb
          clear h5 hi5 f5 F4 hr4 hn4 hp1 hp2 hS hW4
          go_wp2_with fail
          refine hrb.mono ?_
          rintro ed w6 ⟨rfl, h6, f6⟩
          have F6 : Fr noB w w6 := F5.trans f6 (fun i hi h => by have := HSd _ h; omega)
          have hW6 := hW5.fr f6 (fun k _ hk hs => by have := HSd _ hs; omega)
          have hs6 := f6.size
          have hgr := enGetRow_calls w6 S p ⟨bs0, 0⟩ (fun W f => ht.fr0 (F6.trans f (fun i hi h => by have := HSd _ h; omega))) h6 (fun k hk => by have := HSd k hk; omega)
          rw [hgl] at hgr
          clear hrb h6 f6 F5 hW5 hnum
          go_wp2_with fail
          refine hgr.mono ?_
          rintro ed w7 ⟨A7, m7, c7, rfl, hE7, hm7, _, hr7, f7⟩
          simp only [] at hE7 hr7
          obtain rfl : m7 = j := by rw [← hE7.len.out, HN.out]
          have F7 : Fr noB w w7 := F6.trans f7 (fun i hi h => by have := HSd _ h; omega)
          have hW7 := hW6.fr f7 (fun k _ hk hs => by have := HSd _ hs; omega)
          have hbyc := fun W h => bytes_calls W (fun k => q ≤ k ∧ k < w4.heap.size) q (9 :: bs0) h (by rw [HM.out]; omega)
          rw [HM.out] at hbyc
          have hrfs := fun W h => refsE_calls W m7 c A l h HN (by omega)
          have hrw := fun W A9 c9 h => rowE_calls W A9 m7 c9 l h HN hn hok'
          rw [hre] at hrw
          have hen := fun W h => endRd_calls W S p ⟨[], 0⟩ h
          have hez : rEnd ⟨[], 0⟩ = 0 := rfl
          rw [hez] at hen
          have hsm := fun W A9 c9 h1 h2 => sameEn_calls W A7 A9 m7 c7 m7 c9 l l h1 h2 (by omega) (by omega) rfl
          have hrow7 := hrow.fr0 F7
          clear hgr f7 F6 hW6 hre hez hgl hok' hrow
          go_wp2_with fail
          apply wp_region_calm (R := Fr noB) (C := fun _ W => Fr noB w7 W) [false, false, false, false, false, false, false, false, false, false, false, false, false, false, false, false, false, false, false, false, false, false, false, false]
            [eqv _, eqv (.bool true), eqv (.bool true), eqv _, RowBy m (9 :: bs0), RowBy (m - 1) bs0, eqv (.string (mkS bs0)), eqv _, RowEn l m7, eqv (.string (mkS bs0)), eqv (.bool true), eqv (.bool true), eqv (.bool true), eqv _, eqv (.int .i64 0), eqv (.bool true), eqv (.bool true), eqv (.bool true), eqv _, eqv _, RowEn l m7, eqv (.bool true), eqv (.bool true), eqv (.bool true)]
            (by kernel_rfl) (by kernel_rfl) (fun _ _ _ h1 h2 => h1.then' h2) ((Fr.refl _ _).drew) ((Fr.refl _ _).drew) (by kernel_rfl)
          · refine ⟨?_, ?_, ?_, ?_, ?_, ?_, ?_, ?_, ?_, ?_, ?_, ?_, ?_, ?_, ?_, ?_, ?_, ?_, ?_, ?_, ?_, ?_, ?_, ?_, trivial⟩
            · rw [if_neg (by decide)]; intro kq
              exact calm_mv 8 rfl rfl (Or.inl rfl) (Fr.refl _) (by decide) fun v w hd => hd
            · rw [if_neg (by decide)]; intro kq
              intro a W K hC hd hK
              have d54 : _ = _ := hd 54 (by decide)
              refine wpOp_plain rfl rfl ?_
              go_wp2_with fail
              exact hK _ _ (Fr.refl _ _) hC rfl
            · rw [if_neg (by decide)]; intro kq
              exact calm_mv 55 rfl rfl (Or.inl rfl) (Fr.refl _) (by decide) fun v w hd => hd
            · rw [if_neg (by decide)]; intro kq
              intro a W K hC hd hK
              have d6 : a.tmps[6]?.getD undef = .pointer (some ⟨q, 0, none⟩) := hd 6 (by decide)
              have d56 : a.tmps[56]?.getD undef = .bool true := hd 56 (by decide)
              first | (exact wpOp_skip rfl (wanted_of (want := true) (b := false) rfl rfl (by rw [eval_get]; exact d56)) (hK _ _ (Fr.refl _ _) hC rfl)) | (refine wpOp_want rfl (wanted_of (want := true) (b := true) rfl rfl (by rw [eval_get]; exact d56)) ?_)
              all_goals (
                go_wp2_with fail
                exact hK _ _ (Fr.refl _ _) hC rfl)
            · rw [if_neg (by decide)]; intro kq
              intro a W K hC hd hK
              have d57 : _ = _ := hd 57 (by decide)
              have d56 : a.tmps[56]?.getD undef = .bool true := hd 56 (by decide)
              first | (exact wpOp_skip rfl (wanted_of (want := true) (b := false) rfl rfl (by rw [eval_get]; exact d56)) (hK _ _ (Fr.refl _ _) hC rfl)) | (refine wpOp_want rfl (wanted_of (want := true) (b := true) rfl rfl (by rw [eval_get]; exact d56)) ?_)
              all_goals (
                go_wp2_with fail
                refine (hbyc W (hW7.fr hC (fun _ _ _ => id))).mono ?_
                rintro e9 w9 ⟨A9, c9, rfl, h9, f9⟩
                obtain ⟨ad9, rfl⟩ := (own_row h9).some_of (by simp [bcells])
                exact hK _ _ f9 (hC.then' f9) ⟨ad9, c9, rfl, own_le h9, own_row h9⟩)
            · rw [if_neg (by decide)]; intro kq
              intro a W K hC hd hK
              have d58 : (RowBy m (9 :: bs0)).V (a.tmps[58]?.getD undef) W := hd 58 (by decide)
              have d56 : a.tmps[56]?.getD undef = .bool true := hd 56 (by decide)
              first | (exact wpOp_skip rfl (wanted_of (want := true) (b := false) rfl rfl (by rw [eval_get]; exact d56)) (hK _ _ (Fr.refl _ _) hC rfl)) | (refine wpOp_want rfl (wanted_of (want := true) (b := true) rfl rfl (by rw [eval_get]; exact d56)) ?_)
              all_goals (
                obtain ⟨ad9, c9, d58, hc9, hr9⟩ := d58
                have hrun := run_slice1 W ad9 m c9 hbpos hc9
                go_wp2_with fail
                exact hK _ _ (Fr.refl _ _) hC ⟨_, _, rfl, by omega, row_tail hr9⟩)
            · rw [if_neg (by decide)]; intro kq
              intro a W K hC hd hK
              have d59 : (RowBy (m - 1) bs0).V (a.tmps[59]?.getD undef) W := hd 59 (by decide)
              have d56 : a.tmps[56]?.getD undef = .bool true := hd 56 (by decide)
              first | (exact wpOp_skip rfl (wanted_of (want := true) (b := false) rfl rfl (by rw [eval_get]; exact d56)) (hK _ _ (Fr.refl _ _) hC rfl)) | (refine wpOp_want rfl (wanted_of (want := true) (b := true) rfl rfl (by rw [eval_get]; exact d56)) ?_)
              all_goals (
                obtain ⟨ad9, c9, d59, hc9, hr9⟩ := d59
                have hst := Tryd.toStr hr9 HM1.out c9
                go_wp2_with fail
                exact hK _ _ (Fr.refl _ _) hC rfl)
            · rw [if_neg (by decide)]; intro kq
              intro a W K hC hd hK
              have d0 : a.tmps[0]?.getD undef = .slice A m7 c := hd 0 (by decide)
              have d56 : a.tmps[56]?.getD undef = .bool true := hd 56 (by decide)
              first | (exact wpOp_skip rfl (wanted_of (want := true) (b := false) rfl rfl (by rw [eval_get]; exact d56)) (hK _ _ (Fr.refl _ _) hC rfl)) | (refine wpOp_want rfl (wanted_of (want := true) (b := true) rfl rfl (by rw [eval_get]; exact d56)) ?_)
              all_goals (
                go_wp2_with fail
                exact hK _ _ (Fr.refl _ _) hC rfl)
            · rw [if_neg (by decide)]; intro kq
              intro a W K hC hd hK
              have d61 : _ = _ := hd 61 (by decide)
              have d56 : a.tmps[56]?.getD undef = .bool true := hd 56 (by decide)
              first | (exact wpOp_skip rfl (wanted_of (want := true) (b := false) rfl rfl (by rw [eval_get]; exact d56)) (hK _ _ (Fr.refl _ _) hC rfl)) | (refine wpOp_want rfl (wanted_of (want := true) (b := true) rfl rfl (by rw [eval_get]; exact d56)) ?_)
              all_goals (
                go_wp2_with fail
                refine (hrfs W (hrow7.fr0 hC)).mono ?_
                rintro e9 w9 ⟨A9, n9, c9, rfl, hn9, h9, f9⟩
                obtain rfl : n9 = m7 := by rw [← hn9.out, HN.out]
                exact hK _ _ f9 (hC.then' f9) ⟨A9, c9, rfl, hn9, own_row h9⟩)
            · rw [if_neg (by decide)]; intro kq
              intro a W K hC hd hK
              have d62 : (RowEn l m7).V (a.tmps[62]?.getD undef) W := hd 62 (by decide)
              have d56 : a.tmps[56]?.getD undef = .bool true := hd 56 (by decide)
              first | (exact wpOp_skip rfl (wanted_of (want := true) (b := false) rfl rfl (by rw [eval_get]; exact d56)) (hK _ _ (Fr.refl _ _) hC rfl)) | (refine wpOp_want rfl (wanted_of (want := true) (b := true) rfl rfl (by rw [eval_get]; exact d56)) ?_)
              all_goals (
                obtain ⟨A9, c9, d62, hE9⟩ := d62
                go_wp2_with fail
                refine (hrw W A9 c9 hE9.row).mono ?_
                rintro e9 w9 ⟨rfl, f9⟩
                exact hK _ _ f9 (hC.then' f9) rfl)
            · rw [if_neg (by decide)]; intro kq
              intro a W K hC hd hK
              have d60 : a.tmps[60]?.getD undef = .string (mkS bs0) := hd 60 (by decide)
              have d63 : a.tmps[63]?.getD undef = .string (mkS bs0) := hd 63 (by decide)
              have d56 : a.tmps[56]?.getD undef = .bool true := hd 56 (by decide)
              first | (exact wpOp_skip rfl (wanted_of (want := true) (b := false) rfl rfl (by rw [eval_get]; exact d56)) (hK _ _ (Fr.refl _ _) hC rfl)) | (refine wpOp_want rfl (wanted_of (want := true) (b := true) rfl rfl (by rw [eval_get]; exact d56)) ?_)
              all_goals (
                go_wp2_with fail
                exact hK _ _ (Fr.refl _ _) hC rfl)
            · rw [if_neg (by decide)]; intro kq
              intro a W K hC hd hK
              have d56 : a.tmps[56]?.getD undef = .bool true := hd 56 (by decide)
              have d64 : a.tmps[64]?.getD undef = .bool true := hd 64 (by decide)
              refine wpOp_plain rfl rfl ?_
              go_wp2_with fail
              exact hK _ _ (Fr.refl _ _) hC rfl
            · rw [if_neg (by decide)]; intro kq
              exact calm_mv 65 rfl rfl (Or.inl rfl) (Fr.refl _) (by decide) fun v w hd => hd
            · rw [if_neg (by decide)]; intro kq
              intro a W K hC hd hK
              have d7 : a.tmps[7]?.getD undef = .pointer (some ⟨p, 0, none⟩) := hd 7 (by decide)
              have d66 : a.tmps[66]?.getD undef = .bool true := hd 66 (by decide)
              first | (exact wpOp_skip rfl (wanted_of (want := true) (b := false) rfl rfl (by rw [eval_get]; exact d66)) (hK _ _ (Fr.refl _ _) hC rfl)) | (refine wpOp_want rfl (wanted_of (want := true) (b := true) rfl rfl (by rw [eval_get]; exact d66)) ?_)
              all_goals (
                go_wp2_with fail
                exact hK _ _ (Fr.refl _ _) hC rfl)
            · rw [if_neg (by decide)]; intro kq
              intro a W K hC hd hK
              have d67 : _ = _ := hd 67 (by decide)
              have d66 : a.tmps[66]?.getD undef = .bool true := hd 66 (by decide)
              first | (exact wpOp_skip rfl (wanted_of (want := true) (b := false) rfl rfl (by rw [eval_get]; exact d66)) (hK _ _ (Fr.refl _ _) hC rfl)) | (refine wpOp_want rfl (wanted_of (want := true) (b := true) rfl rfl (by rw [eval_get]; exact d66)) ?_)
              all_goals (
                go_wp2_with fail
                refine (hen W (hr7.fr hC (fun _ _ _ => id))).mono ?_
                rintro e9 w9 ⟨rfl, rfl⟩
                exact hK _ _ (Fr.refl _ _) hC rfl)
            · rw [if_neg (by decide)]; intro kq
              intro a W K hC hd hK
              have d68 : a.tmps[68]?.getD undef = .int .i64 0 := hd 68 (by decide)
              have d66 : a.tmps[66]?.getD undef = .bool true := hd 66 (by decide)
              first | (exact wpOp_skip rfl (wanted_of (want := true) (b := false) rfl rfl (by rw [eval_get]; exact d66)) (hK _ _ (Fr.refl _ _) hC rfl)) | (refine wpOp_want rfl (wanted_of (want := true) (b := true) rfl rfl (by rw [eval_get]; exact d66)) ?_)
              all_goals (
                go_wp2_with fail
                exact hK _ _ (Fr.refl _ _) hC rfl)
            · rw [if_neg (by decide)]; intro kq
              intro a W K hC hd hK
              have d66 : a.tmps[66]?.getD undef = .bool true := hd 66 (by decide)
              have d69 : a.tmps[69]?.getD undef = .bool true := hd 69 (by decide)
              refine wpOp_plain rfl rfl ?_
              go_wp2_with fail
              exact hK _ _ (Fr.refl _ _) hC rfl
            · rw [if_neg (by decide)]; intro kq
              exact calm_mv 70 rfl rfl (Or.inl rfl) (Fr.refl _) (by decide) fun v w hd => hd
            · rw [if_neg (by decide)]; intro kq
              intro a W K hC hd hK
              have d9 : a.tmps[9]?.getD undef = .slice A7 m7 c7 := hd 9 (by decide)
              have d71 : a.tmps[71]?.getD undef = .bool true := hd 71 (by decide)
              first | (exact wpOp_skip rfl (wanted_of (want := true) (b := false) rfl rfl (by rw [eval_get]; exact d71)) (hK _ _ (Fr.refl _ _) hC rfl)) | (refine wpOp_want rfl (wanted_of (want := true) (b := true) rfl rfl (by rw [eval_get]; exact d71)) ?_)
              all_goals (
                go_wp2_with fail
                exact hK _ _ (Fr.refl _ _) hC rfl)
            · rw [if_neg (by decide)]; intro kq
              intro a W K hC hd hK
              have d0 : a.tmps[0]?.getD undef = .slice A m7 c := hd 0 (by decide)
              have d71 : a.tmps[71]?.getD undef = .bool true := hd 71 (by decide)
              first | (exact wpOp_skip rfl (wanted_of (want := true) (b := false) rfl rfl (by rw [eval_get]; exact d71)) (hK _ _ (Fr.refl _ _) hC rfl)) | (refine wpOp_want rfl (wanted_of (want := true) (b := true) rfl rfl (by rw [eval_get]; exact d71)) ?_)
              all_goals (
                go_wp2_with fail
                exact hK _ _ (Fr.refl _ _) hC rfl)
            · rw [if_neg (by decide)]; intro kq
              intro a W K hC hd hK
              have d73 : _ = _ := hd 73 (by decide)
              have d71 : a.tmps[71]?.getD undef = .bool true := hd 71 (by decide)
              first | (exact wpOp_skip rfl (wanted_of (want := true) (b := false) rfl rfl (by rw [eval_get]; exact d71)) (hK _ _ (Fr.refl _ _) hC rfl)) | (refine wpOp_want rfl (wanted_of (want := true) (b := true) rfl rfl (by rw [eval_get]; exact d71)) ?_)
              all_goals (
                go_wp2_with fail
                refine (hrfs W (hrow7.fr0 hC)).mono ?_
                rintro e9 w9 ⟨A9, n9, c9, rfl, hn9, h9, f9⟩
                obtain rfl : n9 = m7 := by rw [← hn9.out, HN.out]
                exact hK _ _ f9 (hC.then' f9) ⟨A9, c9, rfl, hn9, own_row h9⟩)
            · rw [if_neg (by decide)]; intro kq
              intro a W K hC hd hK
              have d72 : _ = _ := hd 72 (by decide)
              have d74 : (RowEn l m7).V (a.tmps[74]?.getD undef) W := hd 74 (by decide)
              have d71 : a.tmps[71]?.getD undef = .bool true := hd 71 (by decide)
              first | (exact wpOp_skip rfl (wanted_of (want := true) (b := false) rfl rfl (by rw [eval_get]; exact d71)) (hK _ _ (Fr.refl _ _) hC rfl)) | (refine wpOp_want rfl (wanted_of (want := true) (b := true) rfl rfl (by rw [eval_get]; exact d71)) ?_)
              all_goals (
                obtain ⟨A9, c9, d74, hE9⟩ := d74
                go_wp2_with fail
                refine (hsm W A9 c9 (hE7.fr0 hC) hE9).mono ?_
                rintro e9 w9 ⟨rfl, f9⟩
                exact hK _ _ f9 (hC.then' f9) rfl)
            · rw [if_neg (by decide)]; intro kq
              intro a W K hC hd hK
              have d71 : a.tmps[71]?.getD undef = .bool true := hd 71 (by decide)
              have d75 : a.tmps[75]?.getD undef = .bool true := hd 75 (by decide)
              refine wpOp_plain rfl rfl ?_
              go_wp2_with fail
              exact hK _ _ (Fr.refl _ _) hC rfl
            · rw [if_neg (by decide)]; intro kq
              exact calm_mv 76 rfl rfl (Or.inr rfl) (Fr.refl _) (by decide) fun v w hd => hd
          · intro vs w9 fw9 cw9 hV
            have v54 : vs 0 = _ := hV 0 _ _ rfl rfl (by decide)
            have v55 : vs 1 = .bool true := hV 1 _ _ rfl rfl (by decide)
            have v56 : vs 2 = .bool true := hV 2 _ _ rfl rfl (by decide)
            have v57 : vs 3 = _ := hV 3 _ _ rfl rfl (by decide)
            have v58 : (RowBy m (9 :: bs0)).V (vs 4) w9 := hV 4 _ _ rfl rfl (by decide)
            have v59 : (RowBy (m - 1) bs0).V (vs 5) w9 := hV 5 _ _ rfl rfl (by decide)
            have v60 : vs 6 = .string (mkS bs0) := hV 6 _ _ rfl rfl (by decide)
            have v61 : vs 7 = _ := hV 7 _ _ rfl rfl (by decide)
            have v62 : (RowEn l m7).V (vs 8) w9 := hV 8 _ _ rfl rfl (by decide)
            have v63 : vs 9 = .string (mkS bs0) := hV 9 _ _ rfl rfl (by decide)
            have v64 : vs 10 = .bool true := hV 10 _ _ rfl rfl (by decide)
            have v65 : vs 11 = .bool true := hV 11 _ _ rfl rfl (by decide)
            have v66 : vs 12 = .bool true := hV 12 _ _ rfl rfl (by decide)
            have v67 : vs 13 = _ := hV 13 _ _ rfl rfl (by decide)
            have v68 : vs 14 = .int .i64 0 := hV 14 _ _ rfl rfl (by decide)
            have v69 : vs 15 = .bool true := hV 15 _ _ rfl rfl (by decide)
            have v70 : vs 16 = .bool true := hV 16 _ _ rfl rfl (by decide)
            have v71 : vs 17 = .bool true := hV 17 _ _ rfl rfl (by decide)
            have v72 : vs 18 = _ := hV 18 _ _ rfl rfl (by decide)
            have v73 : vs 19 = _ := hV 19 _ _ rfl rfl (by decide)
            have v74 : (RowEn l m7).V (vs 20) w9 := hV 20 _ _ rfl rfl (by decide)
            have v75 : vs 21 = .bool true := hV 21 _ _ rfl rfl (by decide)
            have v76 : vs 22 = .bool true := hV 22 _ _ rfl rfl (by decide)
            have v2 : vs 23 = .bool true := hV 23 _ _ rfl rfl (by decide)
            clear hV
            simp only [putL, Act.put, Nat.reduceAdd, List.setIfInBounds_toArray, List.set_cons_zero, List.set_cons_succ, v54, v55, v56, v57, v60, v61, v63, v64, v65, v66, v67, v68, v69, v70, v71, v72, v73, v75, v76, v2]
            go_wp2_with fail
            go_ret
            exact BoolPost.mk' rfl (F7.then' fw9)
        · simp only [if_neg hfe] at hput
          have t2 : ((fe : Int) != 0) = true := by rw [bne_iff_ne]; omega
          clear hfea hfe hok'
          go_wp2_with fail
          refine hput.mono ?_
          rintro ed w3 ⟨rfl, f3⟩
          have hW3 := hW2.fr f3 (fun _ _ _ => id)
          have F3 := F2.then' f3
          clear hput F2 hW2
          go_wp2_with fail
          refine (bytes_calls w3 (upB q) q [9] hW3 (by decide)).mono ?_
          rintro ed w4 ⟨A4, c4, rfl, h4, f4⟩
          go_wp2_with fail
          go_ret
          exact BoolPost.mk' rfl (F3.then' f4)
theorem entryRows_law (w : World) (ht : SignsAt w) (A : Option Addr) (n c : Nat) (L : List EnV) (o : RowAt w A (L.flatMap EnV.C) ∧ L.length = n ∧ n ≤ c ∧ c ≤ maxLen ∧ (∀ e ∈ L, EnOK e) ∧ (A = none → n = 0 ∧ c = 0)) :
    Calls Tryd.prog 7 #[.slice A n c] w (BoolPost w true) :=
  entryRows_walk w ht A n c L o.1 o.2.1 o.2.2.2.2.1
end Go.Proofs.YtdngcheimohamaaDoor
