/- interrexlaw02.CrcParts: the walk. -/
import Derived.Test.YtcpcmcdfncjnaaaCrcT
import Derived.Test.YtcpcmcdfncjnaaaOpenBytes
namespace Go.Proofs.Ytcpcmcdfncjnaaa
open Go.RowKit Go.ChangeShapes Go.WideShapes

theorem crcMore_sum (a b : List UInt8) : crcMore (crcSum a) b = crcSum (a ++ b) := by
  unfold crcSum crcMore
  rw [not32_not32 (crcReg_lt (not32_lt 0) a), crcReg_append]
theorem crcSum_nil : crcSum [] = 0 := by decide +kernel
theorem crcMore_lt (s : Nat) (b : List UInt8) : crcMore s b < 4294967296 := not32_lt _
/-- A []byte as it lies in memory. -/
structure Part where
  A : Option Addr
  c : Nat
  bs : List UInt8
instance : Inhabited Part := ⟨⟨none, 0, []⟩⟩
def Part.cells (i : Part) : List Value := [.slice i.A i.bs.length i.c]
theorem Part.cells_length (i : Part) : i.cells.length = 1 := rfl
structure PartOK (w : World) (i : Part) : Prop where
  row : RowAt w i.A (bcells i.bs)
  cap : i.bs.length ≤ i.c
  max : i.c ≤ maxLen
  nil : i.A = none → i.bs.length = 0 ∧ i.c = 0
section
variable {H : Type} {enc : TypeId × Value → H} {w : World}
theorem open_part (n : Nat) (cs : List Value) (y : DataW H × List MemPlace) (h : DataW.trod enc Try.prog w 0 (fun _ => true) true n 30 cs = some y) :
    ∃ i : Part, cs = i.cells ∧ PartOK w i := by
  obtain ⟨A, len, cap, rfl⟩ : ∃ A len cap, cs = [.slice A len cap] := by
    rcases DataW.trod_slice Try.underlying30 h with ⟨e, _⟩ | ⟨a, len, cap, _, _, _, _, e, _⟩
    · exact ⟨_, _, _, e⟩
    · exact ⟨_, _, _, e⟩
  obtain ⟨l, h1, rfl, h3, h4, h5⟩ := open_bytes (w := w) (enc := enc) (d := y.1) (ps := y.2) ⟨n, by simpa [Value.cells] using h⟩
  exact ⟨⟨A, cap, l⟩, rfl, ⟨h1, h3, h4, h5⟩⟩
theorem open_parts {A : Option Addr} {len cap : Nat} {d : DataW H} {ps : List MemPlace} (h : DataW.Trod enc Try.prog w 0 (fun _ => true) true 63 (.slice A len cap) d ps) :
    ∃ l : List Part, RowAt w A (l.flatMap Part.cells) ∧ l.length = len ∧ len ≤ cap ∧ cap ≤ maxLen ∧ (∀ i ∈ l, PartOK w i) ∧ (A = none → len = 0 ∧ cap = 0) := by
  obtain ⟨l, h1, h2, h3, h4, h5, h6⟩ := open_rows Part.cells (fun i => PartOK w i) Try.underlying63 open_part h
  exact ⟨l, h1, h2, h3, h4, h5, h6⟩
end
def partsB (l : List Part) : List UInt8 := l.flatMap Part.bs
theorem partsB_snoc {l : List Part} {k : Nat} {i : Part} (h : l[k]? = some i) : partsB (l.take (k + 1)) = partsB (l.take k) ++ i.bs := by
  unfold partsB; rw [take_snoc' h, List.flatMap_append]; simp only [List.flatMap_cons, List.flatMap_nil, List.append_nil]

set_option maxRecDepth 100000 in
set_option maxHeartbeats 6400000 in
theorem parts_walk (w : World) (A : Option Addr) (n c : Nat) (l : List Part) (h : RowAt w A (l.flatMap Part.cells)) (HN : Hid (l.length = n)) (hn : n ≤ maxLen) (hok : ∀ i ∈ l, PartOK w i) :
    Calls Try.prog 8 #[.slice A n c] w (BoolPost w true) := by
  have hlv := @lives2_calls
  unfold maxLen at hn
  by_cases h12 : 12 < n
  · have t12 : decide (12 < (n : Int)) = true := by simp; omega
    go_enter Try.func8, Try.ntmps8
    go_wp2_with fail
    refine (hlv _).mono ?_
    rintro e w1 ⟨rfl, f1⟩
    go_wp2_with fail
    refine (hlv _).mono ?_
    rintro e w2 ⟨rfl, f2⟩
    go_wp2_with fail
    go_ret
    exact ⟨rfl, f1.then' f2⟩
  · have t12 : decide (12 < (n : Int)) = false := by simp; omega
    go_enter Try.func8, Try.ntmps8
    go_wp2_with fail
    refine (hlv _).mono ?_
    rintro e w1 ⟨rfl, f1⟩
    go_wp2_with fail
    refine (newT_calls w1).mono ?_
    rintro e w2 ⟨rfl, h2, f2, z2⟩
    have Z2 := hid z2; clear z2
    have f02 : Fr (upB w.heap.size) w w2 := (f1.then' f2).up0 _
    have z1 := f1.size
    clear f1 f2
    generalize hp : w1.heap.size = p at *
    have HP := hid hp; clear hp
    go_wp2_with fail
    go_loopw [4, 5, 20] (fun v a i wr => ∃ k : Nat, k ≤ n ∧ i = .int .i64 k ∧ TabAt wr p (decide (0 < k)) ∧ v = .int .u32 (crcSum (partsB (l.take k)) : Nat) ∧ (∃ B m d, Hid ((partsB (l.take k)).length = m) ∧ m ≤ 100 * k ∧ a = .slice B m d ∧ wr.ownsRow (p + 1) 5 1 a m (bcells (partsB (l.take k)))) ∧ Fr (upB w.heap.size) w wr) (fun _ _ i _ => n - (intOf i).toNat)
    case atStart => exact ⟨0, Nat.zero_le _, rfl, h2, (by rw [List.take_zero, show partsB [] = [] from rfl, crcSum_nil]; rfl), ⟨none, 0, 0, rfl, by omega, rfl, World.ownsRow_nil _ _ _ _⟩, f02⟩
    case round =>
      clear h2 f02
      obtain ⟨k, hk, rfl, htb, rfl, ⟨B, m, d, HM, hmk, rfl, hown⟩, hf⟩ := hrel
      by_cases hkn : k < n
      · obtain ⟨it, hit⟩ : ∃ it, l[k]? = some it := ⟨_, List.getElem?_eq_getElem (by rw [HN.out]; exact hkn)⟩
        obtain ⟨ad, rfl⟩ := h.some_flat (by simp [Part.cells]) hit
        have c0 := ((h.seg 1 Part.cells_length hit).fr hf (by
          have := (h.seg 1 Part.cells_length hit) 0 _ rfl
          have := World.block_lt_of_cell? w _ this
          rw [add_block] at this
          unfold upB; omega)).c1
        rw [Nat.mul_one] at c0
        have hpo := hok it (List.mem_of_getElem? hit)
        have HS := hid (partsB_snoc hit)
        obtain ⟨PA, pc, bs⟩ := it
        obtain ⟨hrow, hcap, hmax, hnil⟩ := hpo
        simp only [] at hrow hcap hmax hnil c0 HS
        obtain ⟨q, HQ⟩ : ∃ q, Hid (bs.length = q) := ⟨_, rfl⟩
        rw [HQ.out] at hcap hnil c0
        unfold maxLen at hmax
        have hltw : 0 < q → ∀ a, PA = some a → a.block < w.heap.size := fun h0 a e => by
          subst e; exact hrow.lt (by rw [bcells_length, HQ.out]; exact h0)
        clear hit
        by_cases h100 : 100 < q
        · go_wp2_with fail
          go_ret
          exact ⟨rfl, hf.none⟩
        · have hown0 : wr.ownsRow 0 5 1 (.slice B m d) m (bcells (partsB (l.take k))) := own_mono hown (fun _ _ => Nat.zero_le _)
          have hbase : ∀ g, (Value.slice B m d).ownBlock = some g → p + 1 ≤ g := fun g hg => (hown.lt g hg).1
          have hpw : p < wr.heap.size := htb.lt
          have hrow2 := hrow.up hf
          go_wp2_with (at_builtin; refine wpList_app Try.app8 rfl (.tmp 27) (.tmp 28) rfl _ m (bcells (partsB (l.take k))) rfl hown0 PA q pc (bcells bs) rfl (by rw [bcells_length, HQ.out, Nat.mul_one]) hrow2 (bcells_one _) hnil (by omega) (by omega) ?_)
          intro B' d' w3 hown' hg hat
          have f3 : Fr (fun b => p + 1 ≤ b) wr w3 := Fr.grown (Fr.refl _ wr) hg (fun g hg => Or.inl (hbase g hg))
          have hown3 : w3.ownsRow (p + 1) 5 1 (.slice B' (m + q) d') (m + q) (bcells (partsB (l.take k) ++ bs)) := by
            rw [bcells_append]
            refine own_mono hown' (fun g hg => ?_)
            rcases hat with e | e
            · exact hbase g (e ▸ hg)
            · rw [hg] at e; simp at e; omega
          have htb3 := htb.fr f3 (fun h => by omega)
          have hf3 : Fr (upB w.heap.size) w w3 := hf.then' (f3.mono fun b _ hb => by unfold upB; omega)
          have hrow3 := hrow.up hf3
          have HM3 : Hid ((partsB (l.take k) ++ bs).length = m + q) := by unfold Hid; rw [List.length_append, HM.out, HQ.out]
          have hmr := moreT_calls w3 p _ (crcSum (partsB (l.take k))) PA q pc bs htb3 (crcMore_lt _ _) hrow3 HQ (by omega) (fun a e h0 hb => by have := hltw h0 a e; omega)
          rw [crcMore_sum] at hmr
          rw [← HS.out] at hmr hown3 HM3
          clear hown hown0 hg hat hown' hrow2 htb f3 htb3 hrow3 hrow hf c0
          generalize crcSum (partsB (l.take k)) = s0 at *
          generalize hpb : partsB (l.take (k + 1)) = pb at *
          have HPB := hid hpb; clear hpb HS
          go_wp2_with fail
          refine hmr.mono ?_
          clear hmr
          rintro e w4 ⟨rfl, htb4, f4⟩
          have hown4 := own_fr hown3 f4 (fun g hg he => by have := (hown3.lt g hg).1; unfold eqB at he; omega)
          have hf4 : Fr (upB w.heap.size) w w4 := hf3.then' (f4.mono fun b _ hb => by unfold eqB at hb; unfold upB; omega)
          have z4 := htb4.lt
          clear hown3 hf3 f4
          go_wp2_with fail
          refine (newT_calls w4).mono ?_
          rintro e w5 ⟨rfl, hu5, f5, z5⟩
          have Z5 := hid z5; clear z5
          have hown5 := own_fr hown4 f5 (fun _ _ => id)
          have hlt4 : ∀ g, (Value.slice B' (m + q) d').ownBlock = some g → p + 1 ≤ g ∧ g < w4.heap.size := fun g hg => hown4.lt g hg
          have htb5 := htb4.fr f5 id
          have hf5 : Fr (upB w.heap.size) w w5 := hf4.then' (f5.up0 _)
          have z4w := hf4.size
          clear hown4 htb4 hf4 f5
          generalize hpu : w4.heap.size = pu at *
          have HPU := hid hpu; clear hpu
          have hob : ∀ a, B' = some a → p + 1 ≤ a.block ∧ a.block < pu := fun a e => hlt4 a.block (by rw [e]; rfl)
          have hmd5 := madeT_calls w5 pu false hu5
          have hsu5 := sumT_calls w5 pu false B' (m + q) d' pb hu5 (own_row hown5) HM3 (by omega) (fun a e _ he => by have := hob a e; omega)
          go_wp2_with fail
          refine hmd5.mono ?_
          rintro e w6 ⟨rfl, rfl⟩
          clear hmd5
          go_wp2_with fail
          refine hsu5.mono ?_
          clear hsu5
          rintro e w6 ⟨rfl, hu6, f6⟩
          have hown6 := own_fr hown5 f6 (fun g hg he => by have := hlt4 g hg; unfold eqB at he; omega)
          have htb6 := htb5.fr f6 (fun he => by unfold eqB at he; omega)
          have hf6 : Fr (upB w.heap.size) w w6 := hf5.then' (f6.mono fun b _ hb => by unfold eqB at hb; unfold upB; omega)
          have hst6 := sumT_calls w6 p true B' (m + q) d' pb htb6 (own_row hown6) HM3 (by omega) (fun a e _ he => by have := hob a e; omega)
          clear hown5 htb5 hf5 f6
          go_wp2_with fail
          refine hst6.mono ?_
          clear hst6
          rintro e w7 ⟨rfl, htb7, f7⟩
          have hown7 := own_fr hown6 f7 (fun g hg he => by have := hlt4 g hg; unfold eqB at he; omega)
          have hu7 := hu6.fr f7 (fun he => by unfold eqB at he; omega)
          have hf7 : Fr (upB w.heap.size) w w7 := hf6.then' (f7.mono fun b _ hb => by unfold eqB at hb; unfold upB; omega)
          have hmt7 := madeT_calls w7 p true htb7
          have hmu7 := madeT_calls w7 pu true hu7
          clear hown6 htb6 hf6 f7 hu6
          go_wp2_with fail
          refine hmt7.mono ?_
          rintro e w8 ⟨rfl, rfl⟩
          clear hmt7
          go_wp2_with fail
          refine hmu7.mono ?_
          rintro e w8 ⟨rfl, rfl⟩
          clear hmu7
          go_wp2_with fail
          go_roundw
          case rel => exact ⟨k + 1, by omega, by go_num, by simpa using htb7, by rw [HPB.out], ⟨B', m + q, d', by rw [HPB.out]; exact HM3, by omega, rfl, by rw [HPB.out]; exact hown7⟩, hf7⟩
          case measure => simp [intOf]; omega
      · have : k = n := by omega
        subst this
        go_wp2_with fail
        go_ret
        exact ⟨rfl, hf.none⟩
theorem parts_law (w : World) (A : Option Addr) (n c : Nat) (l : List Part) (o : RowAt w A (l.flatMap Part.cells) ∧ l.length = n ∧ n ≤ c ∧ c ≤ maxLen ∧ (∀ i ∈ l, PartOK w i) ∧ (A = none → n = 0 ∧ c = 0)) :
    Calls Try.prog 8 #[.slice A n c] w (BoolPost w true) :=
  parts_walk w A n c l o.1 o.2.1 (Nat.le_trans o.2.2.1 o.2.2.2.1) o.2.2.2.2.1
end Go.Proofs.Ytcpcmcdfncjnaaa
