/- interrexlaw01.OctetWrites: the walk. -/
import Derived.Test.YtcpcmcdfncjnaaaPut7
import Derived.Test.YtcpcmcdfncjnaaaLives1
namespace Go.Proofs.Ytcpcmcdfncjnaaa
open Go.RowKit

theorem Try.neqW (w : World) (a : Addr) : (binOp .neq 29 (.pointer (some a)) (.pointer (some a))).run Try.prog w = .ok (.bool false) w := by
  have hte : Try.prog.info? 32 = some Try.t32 := by kernel_rfl
  have h : ∀ d : Nat, (Op.equalIn (d + 1) 29 (.pointer (some a)) (.pointer (some a))).run Try.prog w = .ok true w := fun d => by
    simp [Op.equalIn, run_underlying Try.underlying29, sizeOf, typeInfo, hte, run_sameAddr_same]
  simp only [binOp]
  simp [Op.equal, Op.maxDepth, h 9999]

/-- What is asked of each item's values. -/
structure ItemOK (i : Item) : Prop where
  k : i.k < 256
  x : i.x ≤ 18446744073709551615
  c : i.L.length ≤ i.Lc
  m : i.L.length ≤ maxLen
  wf : i.wf
def itemsB (l : List Item) : List UInt8 := l.flatMap Item.bytes
theorem itemsB_snoc {l : List Item} {k : Nat} {i : Item} (h : l[k]? = some i) : itemsB (l.take (k + 1)) = itemsB (l.take k) ++ i.bytes := by
  unfold itemsB; rw [take_snoc' h, List.flatMap_append]; simp only [List.flatMap_cons, List.flatMap_nil, List.append_nil]
theorem Item.bytes_length {i : Item} (h : i.ok = true) : i.bytes.length ≤ 600 := by
  simp only [Item.ok, Bool.and_eq_true, decide_eq_true_eq, List.all_eq_true] at h
  obtain ⟨⟨h1, h2⟩, h3⟩ := h
  have h4 := sumSz_50 h2 h3
  have h5 := textB_length i.s
  have h6 : (rowB i.L).length ≤ sumSz i.L + 2 := by
    unfold rowB
    have := rows_length (i.L.take 65535)
    have := sumSz_take_le i.L 65535
    rw [List.length_append, leB_length]; omega
  unfold Item.bytes
  split
  · rw [leB_length]; omega
  · rw [leB_length]; omega
  · rw [leB_length]; omega
  · rw [leB_length]; omega
  · rw [leB_length]; omega
  · omega
  · omega
  · simp; omega
  · simp
theorem itemsB_length (l : List Item) (h : ∀ i ∈ l, i.ok = true) : (itemsB l).length ≤ 600 * l.length := by
  induction l with
  | nil => simp [itemsB]
  | cons i l ih =>
    have h1 := Item.bytes_length (h i (List.mem_cons_self ..))
    have h2 := ih fun j hj => h j (List.mem_cons_of_mem _ hj)
    simp only [itemsB, List.flatMap_cons, List.length_append, List.length_cons] at *
    omega
theorem fewB_spec {l : List Item} (h : fewB l = true) : l.length ≤ 30 ∧ ∀ i ∈ l, i.ok = true := by
  simp only [fewB, Bool.and_eq_true, decide_eq_true_eq, List.all_eq_true] at h
  exact ⟨h.2, h.1⟩

set_option maxRecDepth 100000 in
set_option maxHeartbeats 3200000 in
theorem writes_walk (w : World) (A : Option Addr) (n c : Nat) (l : List Item) (h : ItemsAt w A l) (HN : Hid (l.length = n)) (hn : n ≤ maxLen) (hok : ∀ i ∈ l, ItemOK i) :
    Calls Try.prog 5 #[.slice A n c] w (BoolPost w true) := by
  have hlv := @lives1_calls
  have hne := Try.neqW
  cases hfew : fewB l with
  | false =>
    have HF := hid hfew; clear hfew
    go_enter Try.func5, Try.ntmps5
    go_wp2_with (go_at_call 14; refine (hlv _).mono ?_; rintro e w1 ⟨rfl, f1⟩)
    have hfc := few_calls w1 A c l ⟨h.row.fr0 f1, fun i hi => (h.sub i hi).fr0 f1⟩ (by rw [HN.out]; exact hn) (fun i hi => (hok i hi).m)
    rw [HN.out, HF.out] at hfc
    refine hfc.mono ?_
    rintro e w2 ⟨rfl, f2⟩
    go_wp2_with (go_at_call 14; refine (hlv _).mono ?_; rintro e w3 ⟨rfl, f3⟩)
    go_ret
    exact ⟨rfl, (f1.then' f2).then' f3⟩
  | true =>
    obtain ⟨h30, hall⟩ := fewB_spec hfew
    have HF := hid hfew; clear hfew
    rw [HN.out] at h30
    go_enter Try.func5, Try.ntmps5
    go_wp2_with (go_at_call 14; refine (hlv _).mono ?_; rintro e w1 ⟨rfl, f1⟩)
    have hfc := few_calls w1 A c l ⟨h.row.fr0 f1, fun i hi => (h.sub i hi).fr0 f1⟩ (by rw [HN.out]; exact hn) (fun i hi => (hok i hi).m)
    rw [HN.out, HF.out] at hfc
    refine hfc.mono ?_
    clear hfc
    rintro e w2 ⟨rfl, f2⟩
    have f02 : Fr noB w w2 := f1.then' f2
    clear f1 f2
    have hw3 := WrAt.new w2
    have f03 : Fr noB w (w2.alloc (.cells #[.slice none 0 0] 32)) := f02.alloc _
    have z2 := f02.size
    go_wp2_with fail
    generalize w2.alloc (.cells #[.slice none 0 0] 32) = w3 at *
    generalize w2.heap.size = p at *
    go_loopw [4, 21] (fun s i wr => ∃ k : Nat, k ≤ n ∧ i = .int .i64 k ∧ s = .string (mkS (itemsB (l.take k))) ∧ WrAt wr (upB p) p (itemsB (l.take k)) ∧ Fr (upB w.heap.size) w wr ∧ p ≤ wr.heap.size) (fun _ i _ => n - (intOf i).toNat)
    case atStart => exact ⟨0, Nat.zero_le _, rfl, rfl, hw3, f03.up0 _, by have := (World.block_lt_of_cell? w3 _ (hw3.open'.choose_spec.choose_spec.choose_spec.choose_spec.2.2.2.2.2.2)); simp at this; omega⟩
    case round =>
      obtain ⟨k, hk, rfl, rfl, hw, hf, hz⟩ := hrel
      by_cases hkn : k < n
      · obtain ⟨it, hit⟩ : ∃ it, l[k]? = some it := ⟨_, List.getElem?_eq_getElem (by rw [HN.out]; exact hkn)⟩
        obtain ⟨ad, rfl⟩ := h.row.some_flat (by simp [Item.cells]) hit
        obtain ⟨c0, c1, c2, c3, c4, c5, c6, c7⟩ := ((h.row.seg 8 Item.cells_length hit).fr hf (by
          have := (h.row.seg 8 Item.cells_length hit) 0 _ rfl
          have := World.block_lt_of_cell? w _ this
          rw [add_block] at this
          unfold upB; omega)).c8
        have hmem := List.mem_of_getElem? hit
        have q1 := hall it hmem
        have q2 := hok it hmem
        have q3 := itemsB_length (l.take k) (fun i hi => hall i (List.mem_of_mem_take hi))
        have q4 : (itemsB (l.take k)).length ≤ 1000000 := by rw [List.length_take] at q3; omega
        have q5 : (itemsB (l.take k) ++ it.bytes).length ≤ 1000000 := by
          have := Item.bytes_length q1
          rw [List.length_take] at q3; rw [List.length_append]; omega
        have HS := hid (itemsB_snoc hit)
        have hsub := h.sub it hmem
        have hq : (mkS (itemsB (l.take k))).size + (mkS it.bytes).size ≤ 9223372036854775807 := by rw [mkS_size, mkS_size]; rw [List.length_append] at q5; omega
        have Q := hid (And.intro q1 (And.intro q2 (And.intro q4 q5)))
        clear hit hmem q1 q2 q3 q4 q5
        generalize hbs : itemsB (l.take k) = bs at *
        have HBS := hid hbs; clear hbs
        have hputs := fun W S hw hL hS => put_calls W S p bs it hw Q.out.2.1.x Q.out.2.2.1 hL Q.out.1 Q.out.2.1.c hS
        go_wp2_with fail
        refine (hputs _ (upB p) (hw.fr ((Fr.refl noB _).alloc _) (fun _ _ _ => id)) (hsub.up (hf.alloc _)) ?_).mono ?_
        · intro h0 a e _
          have := hsub
          rw [e] at this
          have := this.lt (by simpa [strs] using h0)
          unfold upB; omega
        rintro e w5 ⟨rfl, g1, g2⟩
        have g3 : WrAt w5 (upB p) p (bs ++ it.bytes) := g1.up' (by simp; omega)
        have g4 : Fr (upB w.heap.size) w w5 := (hf.alloc _).then' (g2.mono fun i _ h => by unfold upB at *; omega)
        have g5 := g2.size
        have G3 := hid g3
        have G4 := hid g4
        clear g1 g2 g3 g4 hputs hw hf
        have hadd := mkS_append bs it.bytes
        go_wp2_with fail
        refine (bytes_calls w5 (upB p) p (bs ++ it.bytes) G3.out (by have := Q.out.2.2.2; omega)).mono ?_
        rintro e w6 ⟨B, d, rfl, r1, r2⟩
        have hcv := Try.toStr (own_row r1) rfl d
        have R2 := hid r2
        have r3 := r2.size
        clear r1 r2
        generalize hm : (bs ++ it.bytes).length = m at *
        have HM := hid hm; clear hm
        have hself : ((mkS (bs ++ it.bytes)).toList == (mkS (bs ++ it.bytes)).toList) = true := by simp
        go_wp2_with fail
        go_roundw
        case rel => exact ⟨k + 1, by omega, by go_num, by rw [HS.out], by rw [HS.out]; exact G3.out.fr R2.out (fun _ _ _ => id), G4.out.then' (R2.out.up0 _), by simp at g5; omega⟩
        case measure => simp [intOf]; omega
      · have : k = n := by omega
        subst this
        go_wp2_with fail
        go_ret
        exact ⟨rfl, hf.none⟩
end Go.Proofs.Ytcpcmcdfncjnaaa
