/- Contracts, several texts in one. -/
import Derived.Test.YtnkdlmmdaagonaaDev12
import Derived.Test.YtnkdlmmdaagonaaOpenT
import Derived.Deep.Cut
/- slot: check, first; Waiting. -/
namespace Go.Proofs.Ytnkdlmmdaagonaa
open Go.RowKit
def checkT (slot n : Nat) : Nat := if 1 < slot then 1 else if 5632 < n then 3 else 0
set_option maxRecDepth 100000 in
set_option maxHeartbeats 800000 in
theorem slotCheck_calls (w : World) (s n : Nat) : Calls Try.prog 43 #[.int .u8 s, .int .i64 n] w (fun e w' => e = .returned (.int .i64 (checkT s n : Nat)) ∧ w = w') := by
  have HC : Hid (checkT s n = if 1 < s then 1 else if 5632 < n then 3 else 0) := rfl
  generalize checkT s n = cv at *
  obtain ⟨v1, h1⟩ : ∃ v, decide ((1 : Int) < s) = v := ⟨_, rfl⟩
  obtain ⟨v2, h2⟩ : ∃ v, decide ((5632 : Int) < n) = v := ⟨_, rfl⟩
  go_enter Try.func43, Try.ntmps43
  cases v1
  · have e1 : ¬ 1 < s := by have := of_decide_eq_false h1; omega
    cases v2
    · have e2 : ¬ 5632 < n := by have := of_decide_eq_false h2; omega
      have e : cv = 0 := by rw [HC.out, if_neg e1, if_neg e2]
      subst e
      go_wp2_with fail
      go_ret
      exact ⟨rfl, rfl⟩
    · have e2 : 5632 < n := by have := of_decide_eq_true h2; omega
      have e : cv = 3 := by rw [HC.out, if_neg e1, if_pos e2]
      subst e
      go_wp2_with fail
      go_ret
      exact ⟨rfl, rfl⟩
  · have e1 : 1 < s := by have := of_decide_eq_true h1; omega
    have e : cv = 1 := by rw [HC.out, if_pos e1]
    subst e
    go_wp2_with fail
    go_ret
    exact ⟨rfl, rfl⟩
def firstS (slot : Nat) : Nat := 34 + 44 * slot
set_option maxRecDepth 100000 in
theorem slotFirst_calls (w : World) (s : Nat) (hs : s < 256) : Calls Try.prog 44 #[.int .u8 s] w (fun e w' => e = .returned (.int .i64 (firstS s : Nat)) ∧ w = w') := by
  have HF : Hid ((34 : Int) + 44 * (s : Int) = (firstS s : Nat)) := by unfold Hid firstS; push_cast; rfl
  generalize firstS s = fs at *
  have e := HF.out
  go_enter Try.func44, Try.ntmps44
  go_wp2_with fail
  go_ret
  exact ⟨rfl, rfl⟩
set_option maxRecDepth 100000 in
theorem waiting_calls (w : World) (p : Nat) (d : DevV) (h : DevAt w p d) : Calls Try.prog 28 #[.pointer (some ⟨p, 0, none⟩)] w (fun e w' => e = .returned (.int .i64 (d.wait.length : Nat)) ∧ w = w') := by
  obtain ⟨KA, kn, kc, WA, wn, wc, ks, ws, h⟩ := h
  obtain ⟨x0, x1, x2, x3, x4, xf⟩ := BlkAt.c5 h.blk
  have hl := h.wl
  rw [hl]
  clear h
  go_enter Try.func28, Try.ntmps28
  go_wp2_with fail
  go_ret
  exact ⟨rfl, rfl⟩
/-- So many blocks from one on. -/
def outB (d : DevV) (f j : Nat) : List UInt8 := (List.range j).flatMap (fun t => blockD d (f + t))
theorem outB_succ (d : DevV) (f j : Nat) : outB d f (j + 1) = outB d f j ++ blockD d (f + j) := by
  unfold outB; rw [List.range_succ, List.flatMap_append]; simp
/-- What is got of a slot: the bytes, and the error's number (a device of at least 122 blocks). -/
noncomputable def getS (d : DevV) (slot size sum : Nat) : List UInt8 × Nat :=
  if checkT slot size ≠ 0 then ([], checkT slot size) else if d.down = true ∧ 0 < size then ([], 15)
  else if crcSum ((outB d (firstS slot) ((size + 127) / 128)).take size) ≠ sum then ([], 5) else ((outB d (firstS slot) ((size + 127) / 128)).take size, 0)
end Go.Proofs.Ytnkdlmmdaagonaa
/- slot.Get. -/
namespace Go.Proofs.Ytnkdlmmdaagonaa
open Go.RowKit
/-- What Get answers. -/
def GetPostS (w : World) (g : List UInt8 × Nat) (e : Ending) (w' : World) : Prop :=
  ∃ A m c, e = .returned (.tuple #[.slice A m c, .int .i64 (g.2 : Nat)]) ∧ Hid (g.1.length = m) ∧ RowAt w' A (bcells g.1) ∧ Fr noB w w'
/-- A row of bytes that grows, in new memory. -/
def GrowU (base : Nat) (w : World) (v : Value) (n : Nat) (o : List UInt8) : Prop :=
  ∃ B d, v = .slice B n d ∧ Hid (o.length = n) ∧ w.ownsRow 0 5 1 v n (bcells o) ∧ ∀ g, v.ownBlock = some g → base ≤ g
theorem GrowU.fr {base : Nat} {S : Nat → Prop} {w w' : World} {v : Value} {n : Nat} {o : List UInt8} (h : GrowU base w v n o) (f : Fr S w w') (hS : ∀ k, base ≤ k → ¬ S k) : GrowU base w' v n o := by
  obtain ⟨B, d, h1, h0, h2, h3⟩ := h
  exact ⟨B, d, h1, h0, own_fr h2 f (fun g hg => hS g (h3 g hg)), h3⟩
set_option maxRecDepth 100000 in
set_option maxHeartbeats 6400000 in
theorem slotGet_calls (w : World) (p : Nat) (d : DevV) (s size sum : Nat) (h : DevAt w p d) (hs : s < 256) (hsz : size < 4294967296) (hsm : sum < 4294967296) (hk : 122 ≤ d.kept.length) (hwl : d.wait.length ≤ 1000000) :
    Calls Try.prog 17 #[.pointer (some ⟨p, 0, none⟩), .int .u8 s, .int .u32 size, .int .u32 sum] w (GetPostS w (getS d s size sum)) := by
  have hch := slotCheck_calls w s size
  have hfi := slotFirst_calls w s hs
  have HG : Hid (getS d s size sum = if checkT s size ≠ 0 then ([], checkT s size) else if d.down = true ∧ 0 < size then ([], 15) else if crcSum ((outB d (firstS s) ((size + 127) / 128)).take size) ≠ sum then ([], 5) else ((outB d (firstS s) ((size + 127) / 128)).take size, 0)) := rfl
  generalize getS d s size sum = gs at *
  by_cases hc : checkT s size = 0
  · have hs1 : s ≤ 1 ∧ size ≤ 5632 := by
      unfold checkT at hc
      by_cases h1 : 1 < s
      · rw [if_pos h1] at hc; cases hc
      · rw [if_neg h1] at hc
        by_cases h2 : 5632 < size
        · rw [if_pos h2] at hc; cases hc
        · omega
    rw [hc] at hch HG
    rw [if_neg (by decide)] at HG
    have hf78 : firstS s ≤ 78 := by unfold firstS; omega
    generalize firstS s = f at *
    have hth : ∀ j : Nat, 128 * j < size → thereE d ((f + j : Nat) : Int) = if d.down then 15 else 0 := fun j hj => by
      unfold thereE
      rw [if_neg (show ¬ (((f + j : Nat) : Int) < 0 ∨ (d.kept.length : Int) ≤ ((f + j : Nat) : Int)) by omega)]
    clear hc
    go_enter Try.func17, Try.ntmps17
    go_wp2_with fail
    refine hch.mono ?_
    rintro ed w1 ⟨rfl, rfl⟩
    go_wp2_with fail
    refine hfi.mono ?_
    rintro ed w1 ⟨rfl, rfl⟩
    clear hch hfi
    go_wp2_with fail
    go_loopw [11, 12] (fun o i wr => ∃ j : Nat, (j = 0 ∨ 128 * (j - 1) < size ∧ d.down = false) ∧ i = .int .i64 (f + j : Nat) ∧ GrowU w.heap.size wr o (128 * j) (outB d f j) ∧ Fr noB w wr) (fun _ i _ => 200 - (intOf i).toNat)
    case atStart => exact ⟨0, .inl rfl, rfl, ⟨none, 0, rfl, by unfold Hid outB; rfl, World.ownsRow_nil _ _ _ _, fun g hg => by cases hg⟩, Fr.refl _ _⟩
    case round =>
      obtain ⟨j, hj0, rfl, hg, hf⟩ := hrel
      obtain ⟨B, dd, rfl, HL, hown, hbb⟩ := hg
      by_cases hjs : 128 * j < size
      · have hth1 := hth j hjs
        have t1 : decide (128 * j < size) = true := decide_eq_true hjs
        obtain ⟨dn, hdn⟩ : ∃ b, d.down = b := ⟨_, rfl⟩
        rw [hdn] at HG hth1
        cases dn
        · have hrd := read_ok wr p d (f + j) (h.fr0 hf) hth1 hwl
          have hsu := hid (outB_succ d f j)
          have hj44 : j < 44 := by omega
          generalize blockD d (f + j) = bs at *
          generalize hon : outB d f (j + 1) = on at *
          have HON := hid hon
          clear hon
          generalize outB d f j = ob at *
          go_wp2_with fail
          refine hrd.mono ?_
          rintro ed w5 ⟨A5, c5, rfl, hr5, hl5, hb5, hc5, hc5', f5⟩
          have hown5 := own_fr hown f5 (fun _ _ => id)
          have hne5 : A5 = none → (128 : Nat) = 0 ∧ c5 = 0 := fun e => by
            obtain ⟨ad, h9⟩ := hr5.some_of (by rw [bcells_length]; omega)
            rw [e] at h9; cases h9
          clear hrd hown
          go_wp2_with (at_builtin; refine wpList_app Try.app8 rfl (.tmp 40) (.tmp 41) rfl _ (128 * j) (bcells ob) rfl hown5 A5 128 c5 (bcells bs) rfl (by rw [bcells_length, hl5]) hr5 (bcells_one _) hne5 (by omega) (by omega) ?_)
          intro B' d' w6 hown6 hg hat
          have f6 : Fr (fun k => (Value.slice B (128 * j) dd).ownBlock = some k) w5 w6 := Fr.grown (Fr.refl _ w5) hg (fun k hk => Or.inl hk)
          have hGU : GrowU w.heap.size w6 (.slice B' (128 * j + 128) d') (128 * (j + 1)) on := by
            rw [show 128 * (j + 1) = 128 * j + 128 by omega]
            refine ⟨B', d', rfl, by unfold Hid; rw [hsu.out, List.length_append, HL.out, hl5], by rw [hsu.out, bcells_append]; exact hown6, fun g hg => ?_⟩
            rcases hat with e | e
            · exact hbb g (e ▸ hg)
            · rw [hg] at e; simp at e; have := (hf.then' f5).size; omega
          have F6 : Fr noB w w6 := (hf.then' f5).trans f6 (fun i hi h => by have := hbb _ h; omega)
          clear hown5 hown6 hg hat f6 f5 hbb hr5 hb5
          go_wp2_with fail
          go_roundw
          case rel => exact ⟨j + 1, .inr ⟨by rw [Nat.add_sub_cancel]; exact hjs, hdn⟩, by go_num, by rw [HON.out]; exact hGU, F6⟩
          case measure => simp [intOf]; omega
        · have hrd := read_no wr p d ((f + j : Nat) : Int) (h.fr0 hf) (by omega) (by rw [hth1]; decide)
          rw [hth1] at hrd
          have HG2 : Hid (gs = ([], 15)) := by unfold Hid; rw [HG.out, if_pos ⟨rfl, by omega⟩]
          go_wp2_with fail
          refine hrd.mono ?_
          rintro ed w5 ⟨rfl, f5⟩
          go_wp2_with fail
          go_ret2
          exact ⟨none, 0, 0, by rw [HG2.out]; rfl, by unfold Hid; rw [HG2.out]; rfl, by rw [HG2.out]; exact RowAt.nil _ _, hf.then' f5⟩
      · have t1 : decide (128 * j < size) = false := decide_eq_false hjs
        have hjJ : (size + 127) / 128 = j := by omega
        rw [hjJ] at HG
        have HG2 : Hid (gs = if crcSum ((outB d f j).take size) ≠ sum then ([], 5) else ((outB d f j).take size, 0)) := by
          unfold Hid
          rw [HG.out]
          by_cases hz : 0 < size
          · by_cases hdn : d.down = true
            · exfalso
              rcases hj0 with h0 | ⟨_, h0⟩
              · omega
              · rw [hdn] at h0; cases h0
            · rw [if_neg (fun g => hdn g.1)]
          · rw [if_neg (fun g => hz g.2)]
        have hrow := own_row hown
        have hcap := own_capB hown
        have hnil := own_nilB hown
        have hszj : size ≤ 128 * j := by omega
        have hrs : RowAt wr B (bcells ((outB d f j).take size)) := fun q u hu => by
          simp only [bcells, List.map_take] at hu
          rw [List.getElem?_take] at hu
          split at hu
          · exact hrow q u hu
          · cases hu
        have hls : Hid (((outB d f j).take size).length = size) := by unfold Hid; rw [List.length_take, HL.out]; omega
        have hBl : ∀ a, B = some a → a.block < wr.heap.size := fun a e => (hown.lt a.block (by subst e; rfl)).2
        generalize (outB d f j).take size = os at *
        clear hown hrow hbb HL HG hj0 hth
        cases B with
        | none =>
          obtain ⟨h0, h1⟩ := hnil rfl
          obtain rfl : size = 0 := by omega
          subst h1
          rw [show ((0 : Nat) : Int) = 0 from rfl]
          go_wp2_with fail
          refine (newT_calls wr).mono ?_
          rintro ed w5 ⟨rfl, ht5, f5, hz5⟩
          have F5 := hf.then' f5
          have hwz := hf.size
          go_wp2_with fail
          refine (sumT_calls w5 wr.heap.size false none 0 0 os ht5 (hrs.fr0 f5) hls (by omega) (fun a e _ => by have := hBl a e; omega)).mono ?_
          rintro ed w6 ⟨rfl, -, f6⟩
          have F6 := F5.trans f6 (fun i hi h => by unfold eqB at h; omega)
          have hr6 := (hrs.fr0 f5).fr f6 (fun a e _ _ h => by unfold eqB at h; have := hBl a e; omega)
          by_cases hq : crcSum os = sum
          · have HG3 : Hid (gs = (os, 0)) := by unfold Hid; rw [HG2.out, if_neg (by omega)]
            have t5 : ((crcSum os : Int) != sum) = false := by rw [bne_eq_false_iff_eq]; omega
            clear hq
            go_wp2_with fail
            go_ret2
            exact ⟨none, 0, 0, by rw [HG3.out]; rfl, by unfold Hid; rw [HG3.out]; exact hls.out, by rw [HG3.out]; exact hr6, F6⟩
          · have HG3 : Hid (gs = ([], 5)) := by unfold Hid; rw [HG2.out, if_pos hq]
            have t5 : ((crcSum os : Int) != sum) = true := by rw [bne_iff_ne]; omega
            clear hq
            go_wp2_with fail
            go_ret2
            exact ⟨none, 0, 0, by rw [HG3.out]; rfl, by unfold Hid; rw [HG3.out]; rfl, by rw [HG3.out]; exact RowAt.nil _ _, F6⟩
        | some ab =>
          go_wp2_with fail
          refine (newT_calls wr).mono ?_
          rintro ed w5 ⟨rfl, ht5, f5, hz5⟩
          have F5 := hf.then' f5
          have hwz := hf.size
          go_wp2_with fail
          refine (sumT_calls w5 wr.heap.size false (some ab) size dd os ht5 (hrs.fr0 f5) hls (by omega) (fun a e _ => by have := hBl a e; omega)).mono ?_
          rintro ed w6 ⟨rfl, -, f6⟩
          have F6 := F5.trans f6 (fun i hi h => by unfold eqB at h; omega)
          have hr6 := (hrs.fr0 f5).fr f6 (fun a e _ _ h => by unfold eqB at h; have := hBl a e; omega)
          by_cases hq : crcSum os = sum
          · have HG3 : Hid (gs = (os, 0)) := by unfold Hid; rw [HG2.out, if_neg (by omega)]
            have t5 : ((crcSum os : Int) != sum) = false := by rw [bne_eq_false_iff_eq]; omega
            clear hq
            go_wp2_with fail
            go_ret2
            exact ⟨(some ab), size, dd, by rw [HG3.out]; rfl, by unfold Hid; rw [HG3.out]; exact hls.out, by rw [HG3.out]; exact hr6, F6⟩
          · have HG3 : Hid (gs = ([], 5)) := by unfold Hid; rw [HG2.out, if_pos hq]
            have t5 : ((crcSum os : Int) != sum) = true := by rw [bne_iff_ne]; omega
            clear hq
            go_wp2_with fail
            go_ret2
            exact ⟨none, 0, 0, by rw [HG3.out]; rfl, by unfold Hid; rw [HG3.out]; rfl, by rw [HG3.out]; exact RowAt.nil _ _, F6⟩
  · rw [if_pos hc] at HG
    have t1 : ((checkT s size : Int) != 0) = true := by rw [bne_iff_ne]; omega
    generalize checkT s size = cv at *
    clear hc
    go_enter Try.func17, Try.ntmps17
    go_wp2_with fail
    refine hch.mono ?_
    rintro ed w1 ⟨rfl, rfl⟩
    go_wp2_with fail
    go_ret2
    exact ⟨none, 0, 0, by rw [HG.out]; rfl, by unfold Hid; rw [HG.out]; rfl, by rw [HG.out]; exact RowAt.nil _ _, Fr.refl _ _⟩
end Go.Proofs.Ytnkdlmmdaagonaa
