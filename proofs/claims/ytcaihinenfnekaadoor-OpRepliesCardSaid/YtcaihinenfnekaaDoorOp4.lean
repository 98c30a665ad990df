/- op.write. -/
import Derived.Test.YtcaihinenfnekaaDoorOp3
import Derived.Test.YtcaihinenfnekaaDoorLives1
namespace Go.Proofs.YtcaihinenfnekaaDoor
open Go.RowKit

def signB (o : OpV) (c : UInt8) : List UInt8 := if c = 97 then textB o.a else if c = 98 then textB o.b else if c = 110 then leB 1 o.n else if c = 114 then leB 1 o.r else []
def writeB (o : OpV) (z : List UInt8) : List UInt8 := leB 1 o.k ++ z.flatMap (signB o)
structure OpV.wf (o : OpV) : Prop where
  k : o.k < 256
  n : o.n < 256
  r : o.r < 256
theorem signB_length (o : OpV) (c : UInt8) (ha : o.a.size ≤ 1000) (hb : o.b.size ≤ 1000) : (signB o c).length ≤ 1002 := by
  have h1 := textB_length o.a
  have h2 := textB_length o.b
  unfold signB
  split
  · omega
  · split
    · omega
    · split
      · simp [leB_length]
      · split <;> simp [leB_length]
theorem flat_length (o : OpV) (z : List UInt8) (ha : o.a.size ≤ 1000) (hb : o.b.size ≤ 1000) : (z.flatMap (signB o)).length ≤ 1002 * z.length := by
  induction z with
  | nil => simp
  | cons c z ih =>
    have := signB_length o c ha hb
    rw [List.flatMap_cons, List.length_append, List.length_cons]
    omega
theorem signs_two : ∀ z ∈ signsL, z.length ≤ 2 := by decide
def BytesPost (w : World) (bs : List UInt8) (e : Ending) (w' : World) : Prop :=
  ∃ A c, e = .returned (.slice A bs.length c) ∧ w'.ownsRow w.heap.size 5 1 (.slice A bs.length c) bs.length (bcells bs) ∧ Fr noB w w'
/-- The blocks of the writer: all new ones but the iterator's. -/
def butB (n it : Nat) : Nat → Prop := fun k => n ≤ k ∧ k ≠ it
theorem WrAt.but {w0 w : World} {n it p : Nat} {bs : List UInt8} (h : WrAt w (andNew (butB n it) w0) p bs) (hn : n ≤ w0.heap.size) (hi : it < w0.heap.size) : WrAt w (butB n it) p bs :=
  h.mono fun k _ hk => hk.elim id fun q => ⟨by omega, by omega⟩

set_option maxRecDepth 100000 in
set_option maxHeartbeats 3200000 in
theorem write_calls (w : World) (o : OpV) (z : List UInt8) (ht : SignsAt w) (hz : signsL[o.k]? = some z) (hw : o.wf) (ha : o.a.size ≤ 1000) (hb : o.b.size ≤ 1000) :
    Calls Tryd.prog 79 #[o.v] w (BytesPost w (writeB o z)) := by
  have hk : o.k < 17 := (List.getElem?_eq_some_iff.1 hz).1
  have hc0 := ht o.k _ hz
  have hlt := ht.lt
  have hok := signs_ok z (List.mem_of_getElem? hz)
  have hz2 := signs_two z (List.mem_of_getElem? hz)
  have hkb : 0 ≤ (o.k : Int) ∧ (o.k : Int) < 17 := ⟨by omega, by omega⟩
  have hn := hw.n
  have hr := hw.r
  clear hz ht hw
  have HL : Hid (∀ j, (leB 1 o.k ++ (z.take j).flatMap (signB o)).length ≤ 2100) := fun j => by
    have := flat_length o (z.take j) ha hb
    have h2 : (z.take j).length ≤ 2 := by rw [List.length_take]; omega
    simp only [List.length_append, leB_length]
    omega
  have HA := hid ha
  have HB := hid hb
  clear ha hb
  have hb0 : BlkAt (w.alloc (.cells #[.int .u8 o.k, .string o.a, .string o.b, .int .u8 o.n, .int .u8 o.r] 38)) w.heap.size 38 o.C := BlkAt.new _ _ _
  have hwr := WrAt.new (w.alloc (.cells #[.int .u8 o.k, .string o.a, .string o.b, .int .u8 o.n, .int .u8 o.r] 38))
  rw [al_size] at hwr
  have f0 : Fr noB w (w.alloc (.cells #[.int .u8 o.k, .string o.a, .string o.b, .int .u8 o.n, .int .u8 o.r] 38)) := (Fr.refl noB w).alloc _
  have hk0 := (hb0.al (.cells #[.slice none 0 0] 150)).cell (k := 0) (v := .int .u8 o.k) rfl
  have hv : o.v = .agg #[.int .u8 o.k, .string o.a, .string o.b, .int .u8 o.n, .int .u8 o.r] := rfl
  rw [hv]
  clear hv
  go_enter Tryd.func79, Tryd.ntmps79
  go_wp2_with fail
  refine (byte_calls _ _ _ [] o.k hwr (by omega) (by simp)).mono ?_
  rintro e w1 ⟨rfl, h1, f1⟩
  have F1 : Fr noB w w1 := (f0.alloc _).trans (T := upB (w.heap.size + 1)) f1 (fun i hi h => absurd h (by unfold upB; omega))
  have hb1 := (hb0.al (.cells #[.slice none 0 0] 150)).fr f1 (by unfold upB; omega)
  have hs1 := f1.size
  simp only [al_size] at hs1
  have H1 := hid h1
  have c1 := hb1.cell (k := 0) (v := .int .u8 o.k) rfl
  have cz : w1.cell? ⟨1, o.k, none⟩ = some (.string (mkS z)) := F1.cell hc0 id
  clear h1 f1 hb0 hwr hk0 hc0
  go_wp2_with fail
  go_loopw [] (fun wr => ∃ (j : Nat), j ≤ z.length ∧ IterAt wr w1.heap.size z j ∧ BlkAt wr w.heap.size 38 o.C ∧ WrAt wr (butB (w.heap.size + 1) w1.heap.size) (w.heap.size + 1) (leB 1 o.k ++ (z.take j).flatMap (signB o)) ∧ Fr noB w wr ∧ w1.heap.size < wr.heap.size) (fun wr => z.length - wr.iterPos w1.heap.size)
  case atStart =>
    refine ⟨0, Nat.zero_le _, IterAt.new _ _, (hb1.al _), ?_, F1.alloc _, by rw [World.iter, al_size]; omega⟩
    refine (H1.out.mono (T := butB (w.heap.size + 1) w1.heap.size) fun k hk h => ?_).fr (fr_iter w1 (mkS z) 0) (fun _ _ _ => id)
    rcases h with h | h
    · exact ⟨h, by omega⟩
    · simp only [al_size] at h; exact ⟨by omega, by omega⟩
  case round =>
    clear hb1 H1 cz c1
    obtain ⟨j, hj, hi, hb0, hw0, hf, hgt⟩ := hrel
    by_cases hjl : j < z.length
    · obtain ⟨c, hc⟩ : ∃ c, z[j]? = some c := ⟨_, List.getElem?_eq_getElem hjl⟩
      have hc4 := hok c (List.mem_of_getElem? hc)
      have HS : Hid ((z.take (j + 1)).flatMap (signB o) = (z.take j).flatMap (signB o) ++ signB o c) := by unfold Hid; rw [take_snoc' hc]; simp
      obtain ⟨w2, HW2, hnx, i2, f2⟩ := hi.step (P := Tryd.prog) hc (by rcases hc4 with rfl | rfl | rfl | rfl <;> decide)
      have d0 := hb0.fr f2 (by unfold eqB; omega)
      have hw2 := hw0.fr f2 (fun k _ h1 h2 => h1.2 h2)
      have hs2 := f2.size
      have hf2 : Fr noB w w2 := hf.trans f2 (fun i hi h => absurd h (by unfold eqB; omega))
      have x1 := d0.cell (k := 1) (v := .string o.a) rfl
      have x2 := d0.cell (k := 2) (v := .string o.b) rfl
      have x3 := d0.cell (k := 3) (v := .int .u8 o.n) rfl
      have x4 := d0.cell (k := 4) (v := .int .u8 o.r) rfl
      have hl2 := HL.out j
      have HI := hid hi.pos
      clear hc hok hi hb0 hw0 f2
      rcases hc4 with rfl | rfl | rfl | rfl
      · simp only [show (97 : UInt8).toNat = 97 from rfl] at hnx
        go_wp2_with fail
        refine (text_calls w2 _ _ _ o.a hw2 (Nat.le_trans HA.out (by decide)) (by have := HA.out; omega)).mono ?_
        rintro e w3 ⟨rfl, h3, f3⟩
        have hs3 := f3.size
        have i3 := i2.fr f3 (fun h => h.2 rfl)
        have d3 := d0.fr f3 (fun h => by have := h.1; omega)
        have H3 := hid (h3.but (by omega) (by omega))
        have F3 : Fr noB w w3 := hf2.trans f3 (fun i hi h => absurd h.1 (by omega))
        clear h3 f3
        go_wp2_with fail
        go_roundw
        case rel => exact ⟨j + 1, by omega, i3, d3, by rw [HS.out, ← List.append_assoc]; exact H3.out, F3, by omega⟩
        case measure => rw [show wr.iterPos w1.heap.size = j from HI.out, i3.pos]; omega
      · simp only [show (98 : UInt8).toNat = 98 from rfl] at hnx
        go_wp2_with fail
        refine (text_calls w2 _ _ _ o.b hw2 (Nat.le_trans HB.out (by decide)) (by have := HB.out; omega)).mono ?_
        rintro e w3 ⟨rfl, h3, f3⟩
        have hs3 := f3.size
        have i3 := i2.fr f3 (fun h => h.2 rfl)
        have d3 := d0.fr f3 (fun h => by have := h.1; omega)
        have H3 := hid (h3.but (by omega) (by omega))
        have F3 : Fr noB w w3 := hf2.trans f3 (fun i hi h => absurd h.1 (by omega))
        clear h3 f3
        go_wp2_with fail
        go_roundw
        case rel => exact ⟨j + 1, by omega, i3, d3, by rw [HS.out, ← List.append_assoc]; exact H3.out, F3, by omega⟩
        case measure => rw [show wr.iterPos w1.heap.size = j from HI.out, i3.pos]; omega
      · simp only [show (110 : UInt8).toNat = 110 from rfl] at hnx
        go_wp2_with fail
        refine (byte_calls w2 _ _ _ o.n hw2 (by omega) (by omega)).mono ?_
        rintro e w3 ⟨rfl, h3, f3⟩
        have hs3 := f3.size
        have i3 := i2.fr f3 (fun h => h.2 rfl)
        have d3 := d0.fr f3 (fun h => by have := h.1; omega)
        have H3 := hid (h3.but (by omega) (by omega))
        have F3 : Fr noB w w3 := hf2.trans f3 (fun i hi h => absurd h.1 (by omega))
        clear h3 f3
        go_wp2_with fail
        go_roundw
        case rel => exact ⟨j + 1, by omega, i3, d3, by rw [HS.out, ← List.append_assoc]; exact H3.out, F3, by omega⟩
        case measure => rw [show wr.iterPos w1.heap.size = j from HI.out, i3.pos]; omega
      · simp only [show (114 : UInt8).toNat = 114 from rfl] at hnx
        go_wp2_with fail
        refine (byte_calls w2 _ _ _ o.r hw2 (by omega) (by omega)).mono ?_
        rintro e w3 ⟨rfl, h3, f3⟩
        have hs3 := f3.size
        have i3 := i2.fr f3 (fun h => h.2 rfl)
        have d3 := d0.fr f3 (fun h => by have := h.1; omega)
        have H3 := hid (h3.but (by omega) (by omega))
        have F3 : Fr noB w w3 := hf2.trans f3 (fun i hi h => absurd h.1 (by omega))
        clear h3 f3
        go_wp2_with fail
        go_roundw
        case rel => exact ⟨j + 1, by omega, i3, d3, by rw [HS.out, ← List.append_assoc]; exact H3.out, F3, by omega⟩
        case measure => rw [show wr.iterPos w1.heap.size = j from HI.out, i3.pos]; omega
    · have : j = z.length := by omega
      subst this
      have HS : Hid (leB 1 o.k ++ (z.take z.length).flatMap (signB o) = writeB o z) := by unfold Hid writeB; rw [List.take_of_length_le (Nat.le_refl _)]
      have hnx := hi.stop (P := Tryd.prog) (Nat.le_refl _)
      have hl2 := HL.out z.length
      rw [HS.out] at hw0 hl2
      clear hok hi hb0
      go_wp2_with fail
      refine (bytes_calls wr _ _ _ hw0 (by omega)).mono ?_
      rintro e w3 ⟨A, c, rfl, h3, f3⟩
      have h4 := own_mono h3 (b' := w.heap.size) (fun g hg => ?_)
      · have F3 := hf.then' f3
        clear hw0 h3
        go_wp2_with fail
        go_ret
        exact ⟨A, c, rfl, h4, F3⟩
      · have := hf.size
        rcases h3.lt g hg with ⟨h, _⟩
        omega
end Go.Proofs.YtcaihinenfnekaaDoor
