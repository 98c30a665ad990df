/- What the row leans on, part 4: contracts and plain laws. -/
import Derived.Test.YtdngcheimohamaaProg
import Derived.WalkKit
import Derived.Maps.AppendAt
import Derived.Lib.AppendStr
import Derived.Laws.AppendOwnNone
import Derived.Deep.Draws
import Derived.SliceStrings
import Derived.Deep.Slices
import Derived.WalkSpells
import Derived.Laws.IdiomStrings
import Derived.Lib.ConvBytes
import Derived.Laws.Bits64b
import Derived.Deep.Cut
import Derived.Lib.LaidTab
import Derived.LaidSub
import Derived.Deep.QuietTactic
import Derived.BigQuiet
import Derived.Lib.OthersKept
import Derived.Laws.RangeAny
import Derived.LaidEqlPtr
import Derived.Laws.StructEq
import Derived.Deep.RegionHeld3
import Derived.Laws.MakeOwn
import Derived.Deep.MidRow
import Derived.Laws.ResultCell
import Derived.Deep.Light
import Derived.Maps.OwnOps
import Derived.Maps.Views
import Derived.WideKeyPair
import Derived.WideKeyEntry
import Derived.Test.YtdngcheimohamaaLawTablePlaysB3
/- interrexlaw15.Same. -/
namespace Go.Proofs.Ytdngcheimohamaa
open Go.RowKit
theorem repA_at {R : List TRow} {i : Nat} {r : TRow} (h : R[i]? = some r) : repA (R.map TRow.abs) i = (r.e, r.l) := by
  unfold repA; rw [List.getElem?_map, h]; rfl
theorem lastA_at {R : List TRow} {i : Nat} {r : TRow} (h : R[i]? = some r) : lastA (R.map TRow.abs) i = r.num := by
  unfold lastA; rw [List.getElem?_map, h]; rfl
theorem blk_row {w : World} {b : Nat} {T : TypeId} {R : List TRow} (h : BlkAt w b T (R.flatMap TRow.C).toArray) {i : Nat} {r : TRow} (hr : R[i]? = some r) :
    w.cell? ⟨b, i * 3, none⟩ = some (.int .u64 r.num) ∧ w.cell? ⟨b, i * 3 + 1, none⟩ = some (.int .i64 r.e) ∧ w.cell? ⟨b, i * 3 + 1 + 1, none⟩ = some (.slice r.A r.n r.c) := by
  have hg := fun j b => flat_get TRow.C 3 (fun _ => rfl) R i j r b hr
  refine ⟨h.cell ?_, h.cell ?_, h.cell ?_⟩
  · have := hg 0 _ rfl; simpa using this
  · have := hg 1 _ rfl; simpa using this
  · have := hg 2 _ rfl; simpa [Nat.add_assoc] using this
set_option maxRecDepth 100000 in
set_option maxHeartbeats 1600000 in
theorem same15_calls (w : World) (U : Nat → Prop) (p : Nat) (R : List TRow) (hT : TblA w U p (R.map TRow.abs)) (hA : ∀ r ∈ R, r.RA w) : Calls Try.prog 18 #[.pointer (some ⟨p, 0, none⟩), .agg (R.flatMap TRow.C).toArray] w (BoolPost w true) := by
  have hR : R.length = 8 := by have := hT.len; rwa [List.length_map] at this
  have hsz := tabR_size hR
  have hrow := fun W b (h : BlkAt W b 34 (R.flatMap TRow.C).toArray) i r (hr : R[i]? = some r) => blk_row h hr
  have hla := fun W (f : Fr noB w W) i => lastA_calls W U p (R.map TRow.abs) i (hT.fr0 f)
  have hre := fun W (f : Fr noB w W) i => replyT_calls W U p (R.map TRow.abs) i (hT.fr0 f)
  have hby := fun W (f : Fr noB w W) => bytesT_calls W U p (R.map TRow.abs) (hT.fr0 f)
  have htx := fun W (f : Fr noB w W) => textT_calls W R hR (fun r hr => (hA r hr).fr0 f)
  obtain ⟨cs, hcs⟩ : ∃ cs, R.flatMap TRow.C = cs := ⟨_, rfl⟩
  rw [hcs] at hsz htx hrow ⊢
  have f0 : Fr noB w (w.alloc (.cells cs.toArray 34)) := (Fr.refl noB w).alloc _
  have hb0 : BlkAt (w.alloc (.cells cs.toArray 34)) w.heap.size 34 cs.toArray := BlkAt.new _ _ _
  have hs0 := al_size w (.cells cs.toArray 34)
  have HL := hid hR
  have HC := hid hcs
  clear hR hcs hT
  go_enter Try.func18, Try.ntmps18
  go_upto_region 1 with fail
  generalize (w.alloc (.cells cs.toArray 34)) = wa at *
  obtain ⟨q, hq⟩ : ∃ q, w.heap.size = q := ⟨_, rfl⟩
  rw [hq] at hb0 hs0 ⊢
  go_wp2_with fail
  go_loopw [7] (fun i wr => ∃ k : Nat, k ≤ 8 ∧ i = .int .u8 k ∧ BlkAt wr q 34 cs.toArray ∧ Fr noB w wr) (fun i _ => 8 - (intOf i).toNat)
  case atStart => exact ⟨0, by omega, rfl, hb0, f0⟩
  case round =>
    clear hb0 f0
    obtain ⟨k, hk, rfl, hb, hf⟩ := hrel
    by_cases hk8 : k < 8
    · obtain ⟨r, hr⟩ : ∃ r, R[k]? = some r := ⟨_, List.getElem?_eq_getElem (by rw [HL.out]; exact hk8)⟩
      have hra := (hA r (List.mem_of_getElem? hr)).fr0 hf
      have hre' := hre wr hf k
      have hla' := fun W f => hla W f k
      rw [repA_at hr] at hre'
      rw [lastA_at hr] at hla'
      have hrow' := fun W h => hrow W q h k r hr
      have hjw : IntKind.u8.wrap ((k : Int) + 1) = (k + 1 : Nat) := by rw [IntKind.wrap_u8]; omega
      have hkb : 0 ≤ (k : Int) ∧ (k : Int) < 8 := ⟨by omega, by omega⟩
      have hlt := hb.lt
      clear hla hre hby htx hrow hr
      go_wp2_with fail
      refine hre'.mono ?_
      rintro e w1 ⟨A1, n1, c1, rfl, hn1, f1⟩
      have hb1 := hb.fr f1 id
      have F1 := hf.then' f1
      obtain ⟨hl1, _, _, hr1, _, _⟩ := hn1
      have hz := BlkAt.new w1 #[.int .i64 0, .slice none 0 0] 42
      have f2 : Fr noB w1 (w1.alloc (.cells #[.int .i64 0, .slice none 0 0] 42)) := (Fr.refl noB w1).alloc _
      go_upto_region 5 with (refine wpList_store_blk rfl rfl hz 0 (vs := [.int .i64 r.e, .slice A1 n1 c1]) rfl rfl (by kernel_rfl) (by kernel_rfl) (by simp) rfl ?_; intro w3 f3 hb3)
      have hq1 : q < w1.heap.size := hb1.lt
      have hbq := (hb1.fr f2 id).fr f3 (by unfold eqB; omega)
      have F3 : Fr noB w w3 := (F1.then' f2).trans f3 (fun i hi h => by unfold eqB at h; have := F1.size; omega)
      have hr3 := (hr1.fr0 f2).fr f3 (fun ad e1 h0 h1 h2 => by unfold eqB at h2; subst e1; have := hr1.lt h0; omega)
      have hra3 : r.RA w3 := by
        have := hra.fr0 f1
        have := this.fr0 f2
        exact ⟨this.len, this.row.fr f3 (fun ad e1 h0 h1 h2 => by
          unfold eqB at h2
          have hx := (hra.fr0 f1).row; rw [e1] at hx
          have := hx.lt h0; omega), this.nil, this.good⟩
      generalize hz1 : w1.heap.size = z1 at *
      clear hz f2 f3 hb1 F1 f1 hra hr1 hb hf hre' hz1
      have hst := fun W (f : Fr noB w3 W) => sameTexts_calls W A1 r.A c1 r.c n1 r.n r.l r.l (hr3.fr0 f) (hra3.row.fr0 f) (hid hl1) (hid hra3.len) (by have := hra3.good.few; simp only [TRow.abs] at this; omega)
      have hdd : decide (r.l = r.l) = true := decide_eq_true rfl
      rw [hdd] at hst
      clear hr3 hra3 hdd hl1
      obtain ⟨rn, re, rA, rnn, rc, rl⟩ := r
      simp only [] at *
      apply wp_region_calm (R := Fr noB) (C := fun q' W => Fr noB w3 W) [false, false, false, false, false, false, false, false, false, false, false, false, false, false, false, false, false, false, false, false, false, false, false, false, false, false, false, false, false]
        [eqv _, eqv _, eqv _, eqv _, eqv _, eqv _, eqv _, eqv _, eqv _, eqv _, eqv _, eqv _, eqv _, eqv _, eqv _, eqv _, eqv _, eqv _, eqv _, eqv _, eqv _, eqv _, eqv _, eqv _, eqv _, eqv _, eqv _, eqv _, eqv _]
        (by kernel_rfl) (by kernel_rfl) (fun _ _ _ h1 h2 => h1.then' h2) ((Fr.refl _ _).drew) ((Fr.refl _ _).drew) (by kernel_rfl)
      · refine ⟨?_, ?_, ?_, ?_, ?_, ?_, ?_, ?_, ?_, ?_, ?_, ?_, ?_, ?_, ?_, ?_, ?_, ?_, ?_, ?_, ?_, ?_, ?_, ?_, ?_, ?_, ?_, ?_, ?_, trivial⟩
        · rw [if_neg (by decide)]; intro kq
          exact calm_mv 0 rfl rfl (Or.inl rfl) (Fr.refl _) (by decide) fun v w hd => hd
        · rw [if_neg (by decide)]; intro kq
          exact calm_mv 5 rfl rfl (Or.inl rfl) (Fr.refl _) (by decide) fun v w hd => hd
        · rw [if_neg (by decide)]; intro kq
          intro a W K hC hd hK
          have d13 : _ = _ := hd 13 (by decide)
          have d14 : _ = _ := hd 14 (by decide)
          refine wpOp_plain rfl rfl ?_
          obtain ⟨x0, x1, x2⟩ := hrow' W (hbq.fr hC id)
          obtain ⟨y0, y1, yf⟩ := BlkAt.c2 (hb3.fr hC id)
          go_wp2_with fail
          refine (hla' W (F3.then' hC)).mono ?_
          rintro e9 w9 ⟨rfl, rfl⟩
          exact hK _ _ (Fr.refl _ _) hC rfl
        · rw [if_neg (by decide)]; intro kq
          exact calm_mv 5 rfl rfl (Or.inl rfl) (Fr.refl _) (by decide) fun v w hd => hd
        · rw [if_neg (by decide)]; intro kq
          intro a W K hC hd hK
          have d3 : a.tmps[3]?.getD undef = .pointer (some ⟨q, 0, none⟩) := hd 3 (by decide)
          have d16 : _ = _ := hd 16 (by decide)
          refine wpOp_plain rfl rfl ?_
          obtain ⟨x0, x1, x2⟩ := hrow' W (hbq.fr hC id)
          obtain ⟨y0, y1, yf⟩ := BlkAt.c2 (hb3.fr hC id)
          go_wp2_with fail
          exact hK _ _ (Fr.refl _ _) hC rfl
        · rw [if_neg (by decide)]; intro kq
          intro a W K hC hd hK
          have d17 : _ = _ := hd 17 (by decide)
          refine wpOp_plain rfl rfl ?_
          obtain ⟨x0, x1, x2⟩ := hrow' W (hbq.fr hC id)
          obtain ⟨y0, y1, yf⟩ := BlkAt.c2 (hb3.fr hC id)
          go_wp2_with fail
          exact hK _ _ (Fr.refl _ _) hC rfl
        · rw [if_neg (by decide)]; intro kq
          intro a W K hC hd hK
          have d18 : _ = _ := hd 18 (by decide)
          refine wpOp_plain rfl rfl ?_
          obtain ⟨x0, x1, x2⟩ := hrow' W (hbq.fr hC id)
          obtain ⟨y0, y1, yf⟩ := BlkAt.c2 (hb3.fr hC id)
          go_wp2_with fail
          exact hK _ _ (Fr.refl _ _) hC rfl
        · rw [if_neg (by decide)]; intro kq
          intro a W K hC hd hK
          have d15 : _ = _ := hd 15 (by decide)
          have d19 : _ = _ := hd 19 (by decide)
          refine wpOp_plain rfl rfl ?_
          go_wp2_with fail
          exact hK _ _ (Fr.refl _ _) hC rfl
        · rw [if_neg (by decide)]; intro kq
          exact calm_mv 20 rfl rfl (Or.inl rfl) (Fr.refl _) (by decide) fun v w hd => hd
        · rw [if_neg (by decide)]; intro kq
          intro a W K hC hd hK
          have d6 : a.tmps[6]?.getD undef = .pointer (some ⟨z1, 0, none⟩) := hd 6 (by decide)
          have d21 : _ = _ := hd 21 (by decide)
          first | (exact wpOp_skip rfl (wanted_of (want := false) (b := true) rfl rfl (by rw [eval_get]; exact d21)) (hK _ _ (Fr.refl _ _) hC rfl)) | (refine wpOp_want rfl (wanted_of (want := false) (b := false) rfl rfl (by rw [eval_get]; exact d21)) ?_)
          all_goals (
            obtain ⟨x0, x1, x2⟩ := hrow' W (hbq.fr hC id)
            obtain ⟨y0, y1, yf⟩ := BlkAt.c2 (hb3.fr hC id)
            go_wp2_with fail
            exact hK _ _ (Fr.refl _ _) hC rfl)
        · rw [if_neg (by decide)]; intro kq
          intro a W K hC hd hK
          have d22 : _ = _ := hd 22 (by decide)
          have d21 : _ = _ := hd 21 (by decide)
          first | (exact wpOp_skip rfl (wanted_of (want := false) (b := true) rfl rfl (by rw [eval_get]; exact d21)) (hK _ _ (Fr.refl _ _) hC rfl)) | (refine wpOp_want rfl (wanted_of (want := false) (b := false) rfl rfl (by rw [eval_get]; exact d21)) ?_)
          all_goals (
            obtain ⟨x0, x1, x2⟩ := hrow' W (hbq.fr hC id)
            obtain ⟨y0, y1, yf⟩ := BlkAt.c2 (hb3.fr hC id)
            go_wp2_with fail
            exact hK _ _ (Fr.refl _ _) hC rfl)
        · rw [if_neg (by decide)]; intro kq
          intro a W K hC hd hK
          have d5 : a.tmps[5]?.getD undef = .int .u8 k := hd 5 (by decide)
          have d21 : _ = _ := hd 21 (by decide)
          first | (exact wpOp_skip rfl (wanted_of (want := false) (b := true) rfl rfl (by rw [eval_get]; exact d21)) (hK _ _ (Fr.refl _ _) hC rfl)) | (refine wpOp_want rfl (wanted_of (want := false) (b := false) rfl rfl (by rw [eval_get]; exact d21)) ?_)
          all_goals (
            go_wp2_with fail
            exact hK _ _ (Fr.refl _ _) hC rfl)
        · rw [if_neg (by decide)]; intro kq
          intro a W K hC hd hK
          have d3 : a.tmps[3]?.getD undef = .pointer (some ⟨q, 0, none⟩) := hd 3 (by decide)
          have d24 : _ = _ := hd 24 (by decide)
          have d21 : _ = _ := hd 21 (by decide)
          first | (exact wpOp_skip rfl (wanted_of (want := false) (b := true) rfl rfl (by rw [eval_get]; exact d21)) (hK _ _ (Fr.refl _ _) hC rfl)) | (refine wpOp_want rfl (wanted_of (want := false) (b := false) rfl rfl (by rw [eval_get]; exact d21)) ?_)
          all_goals (
            obtain ⟨x0, x1, x2⟩ := hrow' W (hbq.fr hC id)
            obtain ⟨y0, y1, yf⟩ := BlkAt.c2 (hb3.fr hC id)
            go_wp2_with fail
            exact hK _ _ (Fr.refl _ _) hC rfl)
        · rw [if_neg (by decide)]; intro kq
          intro a W K hC hd hK
          have d25 : _ = _ := hd 25 (by decide)
          have d21 : _ = _ := hd 21 (by decide)
          first | (exact wpOp_skip rfl (wanted_of (want := false) (b := true) rfl rfl (by rw [eval_get]; exact d21)) (hK _ _ (Fr.refl _ _) hC rfl)) | (refine wpOp_want rfl (wanted_of (want := false) (b := false) rfl rfl (by rw [eval_get]; exact d21)) ?_)
          all_goals (
            obtain ⟨x0, x1, x2⟩ := hrow' W (hbq.fr hC id)
            obtain ⟨y0, y1, yf⟩ := BlkAt.c2 (hb3.fr hC id)
            go_wp2_with fail
            exact hK _ _ (Fr.refl _ _) hC rfl)
        · rw [if_neg (by decide)]; intro kq
          intro a W K hC hd hK
          have d26 : _ = _ := hd 26 (by decide)
          have d21 : _ = _ := hd 21 (by decide)
          first | (exact wpOp_skip rfl (wanted_of (want := false) (b := true) rfl rfl (by rw [eval_get]; exact d21)) (hK _ _ (Fr.refl _ _) hC rfl)) | (refine wpOp_want rfl (wanted_of (want := false) (b := false) rfl rfl (by rw [eval_get]; exact d21)) ?_)
          all_goals (
            obtain ⟨x0, x1, x2⟩ := hrow' W (hbq.fr hC id)
            obtain ⟨y0, y1, yf⟩ := BlkAt.c2 (hb3.fr hC id)
            go_wp2_with fail
            exact hK _ _ (Fr.refl _ _) hC rfl)
        · rw [if_neg (by decide)]; intro kq
          intro a W K hC hd hK
          have d27 : _ = _ := hd 27 (by decide)
          have d21 : _ = _ := hd 21 (by decide)
          first | (exact wpOp_skip rfl (wanted_of (want := false) (b := true) rfl rfl (by rw [eval_get]; exact d21)) (hK _ _ (Fr.refl _ _) hC rfl)) | (refine wpOp_want rfl (wanted_of (want := false) (b := false) rfl rfl (by rw [eval_get]; exact d21)) ?_)
          all_goals (
            obtain ⟨x0, x1, x2⟩ := hrow' W (hbq.fr hC id)
            obtain ⟨y0, y1, yf⟩ := BlkAt.c2 (hb3.fr hC id)
            go_wp2_with fail
            exact hK _ _ (Fr.refl _ _) hC rfl)
        · rw [if_neg (by decide)]; intro kq
          intro a W K hC hd hK
          have d23 : _ = _ := hd 23 (by decide)
          have d28 : _ = _ := hd 28 (by decide)
          have d21 : _ = _ := hd 21 (by decide)
          first | (exact wpOp_skip rfl (wanted_of (want := false) (b := true) rfl rfl (by rw [eval_get]; exact d21)) (hK _ _ (Fr.refl _ _) hC rfl)) | (refine wpOp_want rfl (wanted_of (want := false) (b := false) rfl rfl (by rw [eval_get]; exact d21)) ?_)
          all_goals (
            go_wp2_with fail
            exact hK _ _ (Fr.refl _ _) hC rfl)
        · rw [if_neg (by decide)]; intro kq
          intro a W K hC hd hK
          have d21 : _ = _ := hd 21 (by decide)
          have d29 : _ = _ := hd 29 (by decide)
          refine wpOp_plain rfl rfl ?_
          go_wp2_with fail
          exact hK _ _ (Fr.refl _ _) hC rfl
        · rw [if_neg (by decide)]; intro kq
          exact calm_mv 30 rfl rfl (Or.inl rfl) (Fr.refl _) (by decide) fun v w hd => hd
        · rw [if_neg (by decide)]; intro kq
          intro a W K hC hd hK
          have d6 : a.tmps[6]?.getD undef = .pointer (some ⟨z1, 0, none⟩) := hd 6 (by decide)
          have d31 : _ = _ := hd 31 (by decide)
          first | (exact wpOp_skip rfl (wanted_of (want := false) (b := true) rfl rfl (by rw [eval_get]; exact d31)) (hK _ _ (Fr.refl _ _) hC rfl)) | (refine wpOp_want rfl (wanted_of (want := false) (b := false) rfl rfl (by rw [eval_get]; exact d31)) ?_)
          all_goals (
            obtain ⟨x0, x1, x2⟩ := hrow' W (hbq.fr hC id)
            obtain ⟨y0, y1, yf⟩ := BlkAt.c2 (hb3.fr hC id)
            go_wp2_with fail
            exact hK _ _ (Fr.refl _ _) hC rfl)
        · rw [if_neg (by decide)]; intro kq
          intro a W K hC hd hK
          have d32 : _ = _ := hd 32 (by decide)
          have d31 : _ = _ := hd 31 (by decide)
          first | (exact wpOp_skip rfl (wanted_of (want := false) (b := true) rfl rfl (by rw [eval_get]; exact d31)) (hK _ _ (Fr.refl _ _) hC rfl)) | (refine wpOp_want rfl (wanted_of (want := false) (b := false) rfl rfl (by rw [eval_get]; exact d31)) ?_)
          all_goals (
            obtain ⟨x0, x1, x2⟩ := hrow' W (hbq.fr hC id)
            obtain ⟨y0, y1, yf⟩ := BlkAt.c2 (hb3.fr hC id)
            go_wp2_with fail
            exact hK _ _ (Fr.refl _ _) hC rfl)
        · rw [if_neg (by decide)]; intro kq
          intro a W K hC hd hK
          have d5 : a.tmps[5]?.getD undef = .int .u8 k := hd 5 (by decide)
          have d31 : _ = _ := hd 31 (by decide)
          first | (exact wpOp_skip rfl (wanted_of (want := false) (b := true) rfl rfl (by rw [eval_get]; exact d31)) (hK _ _ (Fr.refl _ _) hC rfl)) | (refine wpOp_want rfl (wanted_of (want := false) (b := false) rfl rfl (by rw [eval_get]; exact d31)) ?_)
          all_goals (
            go_wp2_with fail
            exact hK _ _ (Fr.refl _ _) hC rfl)
        · rw [if_neg (by decide)]; intro kq
          intro a W K hC hd hK
          have d3 : a.tmps[3]?.getD undef = .pointer (some ⟨q, 0, none⟩) := hd 3 (by decide)
          have d34 : _ = _ := hd 34 (by decide)
          have d31 : _ = _ := hd 31 (by decide)
          first | (exact wpOp_skip rfl (wanted_of (want := false) (b := true) rfl rfl (by rw [eval_get]; exact d31)) (hK _ _ (Fr.refl _ _) hC rfl)) | (refine wpOp_want rfl (wanted_of (want := false) (b := false) rfl rfl (by rw [eval_get]; exact d31)) ?_)
          all_goals (
            obtain ⟨x0, x1, x2⟩ := hrow' W (hbq.fr hC id)
            obtain ⟨y0, y1, yf⟩ := BlkAt.c2 (hb3.fr hC id)
            go_wp2_with fail
            exact hK _ _ (Fr.refl _ _) hC rfl)
        · rw [if_neg (by decide)]; intro kq
          intro a W K hC hd hK
          have d35 : _ = _ := hd 35 (by decide)
          have d31 : _ = _ := hd 31 (by decide)
          first | (exact wpOp_skip rfl (wanted_of (want := false) (b := true) rfl rfl (by rw [eval_get]; exact d31)) (hK _ _ (Fr.refl _ _) hC rfl)) | (refine wpOp_want rfl (wanted_of (want := false) (b := false) rfl rfl (by rw [eval_get]; exact d31)) ?_)
          all_goals (
            obtain ⟨x0, x1, x2⟩ := hrow' W (hbq.fr hC id)
            obtain ⟨y0, y1, yf⟩ := BlkAt.c2 (hb3.fr hC id)
            go_wp2_with fail
            exact hK _ _ (Fr.refl _ _) hC rfl)
        · rw [if_neg (by decide)]; intro kq
          intro a W K hC hd hK
          have d36 : _ = _ := hd 36 (by decide)
          have d31 : _ = _ := hd 31 (by decide)
          first | (exact wpOp_skip rfl (wanted_of (want := false) (b := true) rfl rfl (by rw [eval_get]; exact d31)) (hK _ _ (Fr.refl _ _) hC rfl)) | (refine wpOp_want rfl (wanted_of (want := false) (b := false) rfl rfl (by rw [eval_get]; exact d31)) ?_)
          all_goals (
            obtain ⟨x0, x1, x2⟩ := hrow' W (hbq.fr hC id)
            obtain ⟨y0, y1, yf⟩ := BlkAt.c2 (hb3.fr hC id)
            go_wp2_with fail
            exact hK _ _ (Fr.refl _ _) hC rfl)
        · rw [if_neg (by decide)]; intro kq
          intro a W K hC hd hK
          have d37 : _ = _ := hd 37 (by decide)
          have d31 : _ = _ := hd 31 (by decide)
          first | (exact wpOp_skip rfl (wanted_of (want := false) (b := true) rfl rfl (by rw [eval_get]; exact d31)) (hK _ _ (Fr.refl _ _) hC rfl)) | (refine wpOp_want rfl (wanted_of (want := false) (b := false) rfl rfl (by rw [eval_get]; exact d31)) ?_)
          all_goals (
            obtain ⟨x0, x1, x2⟩ := hrow' W (hbq.fr hC id)
            obtain ⟨y0, y1, yf⟩ := BlkAt.c2 (hb3.fr hC id)
            go_wp2_with fail
            exact hK _ _ (Fr.refl _ _) hC rfl)
        · rw [if_neg (by decide)]; intro kq
          intro a W K hC hd hK
          have d33 : _ = _ := hd 33 (by decide)
          have d38 : _ = _ := hd 38 (by decide)
          have d31 : _ = _ := hd 31 (by decide)
          first | (exact wpOp_skip rfl (wanted_of (want := false) (b := true) rfl rfl (by rw [eval_get]; exact d31)) (hK _ _ (Fr.refl _ _) hC rfl)) | (refine wpOp_want rfl (wanted_of (want := false) (b := false) rfl rfl (by rw [eval_get]; exact d31)) ?_)
          all_goals (
            obtain ⟨x0, x1, x2⟩ := hrow' W (hbq.fr hC id)
            obtain ⟨y0, y1, yf⟩ := BlkAt.c2 (hb3.fr hC id)
            go_wp2_with fail
            refine (hst W hC).mono ?_
            rintro e9 w9 ⟨rfl, f9⟩
            exact hK _ _ f9 (hC.then' f9) rfl)
        · rw [if_neg (by decide)]; intro kq
          intro a W K hC hd hK
          have d39 : _ = _ := hd 39 (by decide)
          have d31 : _ = _ := hd 31 (by decide)
          first | (exact wpOp_skip rfl (wanted_of (want := false) (b := true) rfl rfl (by rw [eval_get]; exact d31)) (hK _ _ (Fr.refl _ _) hC rfl)) | (refine wpOp_want rfl (wanted_of (want := false) (b := false) rfl rfl (by rw [eval_get]; exact d31)) ?_)
          all_goals (
            go_wp2_with fail
            exact hK _ _ (Fr.refl _ _) hC rfl)
        · rw [if_neg (by decide)]; intro kq
          intro a W K hC hd hK
          have d31 : _ = _ := hd 31 (by decide)
          have d40 : _ = _ := hd 40 (by decide)
          refine wpOp_plain rfl rfl ?_
          go_wp2_with fail
          exact hK _ _ (Fr.refl _ _) hC rfl
      · intro vs w9 fw9 cw9 hV
        have v13 : vs 0 = _ := hV 0 _ _ rfl rfl (by decide)
        have v14 : vs 1 = _ := hV 1 _ _ rfl rfl (by decide)
        have v15 : vs 2 = _ := hV 2 _ _ rfl rfl (by decide)
        have v16 : vs 3 = _ := hV 3 _ _ rfl rfl (by decide)
        have v17 : vs 4 = _ := hV 4 _ _ rfl rfl (by decide)
        have v18 : vs 5 = _ := hV 5 _ _ rfl rfl (by decide)
        have v19 : vs 6 = _ := hV 6 _ _ rfl rfl (by decide)
        have v20 : vs 7 = _ := hV 7 _ _ rfl rfl (by decide)
        have v21 : vs 8 = _ := hV 8 _ _ rfl rfl (by decide)
        have v22 : vs 9 = _ := hV 9 _ _ rfl rfl (by decide)
        have v23 : vs 10 = _ := hV 10 _ _ rfl rfl (by decide)
        have v24 : vs 11 = _ := hV 11 _ _ rfl rfl (by decide)
        have v25 : vs 12 = _ := hV 12 _ _ rfl rfl (by decide)
        have v26 : vs 13 = _ := hV 13 _ _ rfl rfl (by decide)
        have v27 : vs 14 = _ := hV 14 _ _ rfl rfl (by decide)
        have v28 : vs 15 = _ := hV 15 _ _ rfl rfl (by decide)
        have v29 : vs 16 = _ := hV 16 _ _ rfl rfl (by decide)
        have v30 : vs 17 = _ := hV 17 _ _ rfl rfl (by decide)
        have v31 : vs 18 = _ := hV 18 _ _ rfl rfl (by decide)
        have v32 : vs 19 = _ := hV 19 _ _ rfl rfl (by decide)
        have v33 : vs 20 = _ := hV 20 _ _ rfl rfl (by decide)
        have v34 : vs 21 = _ := hV 21 _ _ rfl rfl (by decide)
        have v35 : vs 22 = _ := hV 22 _ _ rfl rfl (by decide)
        have v36 : vs 23 = _ := hV 23 _ _ rfl rfl (by decide)
        have v37 : vs 24 = _ := hV 24 _ _ rfl rfl (by decide)
        have v38 : vs 25 = _ := hV 25 _ _ rfl rfl (by decide)
        have v39 : vs 26 = _ := hV 26 _ _ rfl rfl (by decide)
        have v40 : vs 27 = _ := hV 27 _ _ rfl rfl (by decide)
        have v41 : vs 28 = _ := hV 28 _ _ rfl rfl (by decide)
        clear hV
        simp only [putL, Act.put, Nat.reduceAdd, List.setIfInBounds_toArray, List.set_cons_zero, List.set_cons_succ, v13, v14, v15, v16, v17, v18, v19, v20, v21, v22, v23, v24, v25, v26, v27, v28, v29, v30, v31, v32, v33, v34, v35, v36, v37, v38, v39, v40, v41]
        have hbq9 := hbq.fr fw9 id
        have F9 := F3.then' fw9
        go_wp2_with fail
        go_roundw
        case rel => exact ⟨k + 1, by omega, by go_num, hbq9, F9⟩
        case measure => simp [intOf]; omega
    · obtain rfl : k = 8 := by omega
      clear hla hre hrow
      have hlc := hb.range 0 (cs := cs) (by rw [List.drop_zero, List.take_length])
      go_wp2_with fail
      apply wp_region_calm (R := Fr noB) (C := fun q' W => Fr noB wr W) [false, false, false, false, false, false]
        [eqv _, eqv (.string (mkS (tblB (R.map TRow.abs)))), eqv (.agg cs.toArray), eqv (.string (mkS (tblB (R.map TRow.abs)))), eqv (.bool true), eqv _]
        (by kernel_rfl) (by kernel_rfl) (fun _ _ _ h1 h2 => h1.then' h2) ((Fr.refl _ _).drew) ((Fr.refl _ _).drew) (by kernel_rfl)
      · refine ⟨?_, ?_, ?_, ?_, ?_, ?_, trivial⟩
        · rw [if_neg (by decide)]; intro kq
          exact calm_mv 0 rfl rfl (Or.inl rfl) (Fr.refl _) (by decide) fun v w hd => hd
        · rw [if_neg (by decide)]; intro kq
          intro a W K hC hd hK
          have d43 : _ = _ := hd 43 (by decide)
          refine wpOp_plain rfl rfl ?_
          go_wp2_with fail
          refine (hby W (hf.then' hC)).mono ?_
          rintro e9 w9 ⟨rfl, f9⟩
          exact hK _ _ f9 (hC.then' f9) rfl
        · rw [if_neg (by decide)]; intro kq
          intro a W K hC hd hK
          have d3 : a.tmps[3]?.getD undef = .pointer (some ⟨q, 0, none⟩) := hd 3 (by decide)
          refine wpOp_plain rfl rfl ?_
          refine wp_load_blk (P := Try.prog) rfl (hb.fr hC id) 0 (by rw [eval_get]; exact d3) (cs := cs) (by rw [List.drop_zero, List.take_length]) Try.underlying34 rfl hsz ?_
          exact hK _ _ (Fr.refl _ _) hC rfl
        · rw [if_neg (by decide)]; intro kq
          intro a W K hC hd hK
          have d45 : a.tmps[45]?.getD undef = .agg cs.toArray := hd 45 (by decide)
          refine wpOp_plain rfl rfl ?_
          go_wp2_with fail
          refine (htx W (hf.then' hC)).mono ?_
          rintro e9 w9 ⟨rfl, f9⟩
          exact hK _ _ f9 (hC.then' f9) rfl
        · rw [if_neg (by decide)]; intro kq
          intro a W K hC hd hK
          have d44 : a.tmps[44]?.getD undef = .string (mkS (tblB (R.map TRow.abs))) := hd 44 (by decide)
          have d46 : a.tmps[46]?.getD undef = .string (mkS (tblB (R.map TRow.abs))) := hd 46 (by decide)
          refine wpOp_plain rfl rfl ?_
          go_wp2_with fail
          exact hK _ _ (Fr.refl _ _) hC rfl
        · rw [if_neg (by decide)]; intro kq
          exact calm_mv 47 rfl rfl (Or.inr rfl) (Fr.refl _) (by decide) fun v w hd => hd
      · intro vs w9 fw9 cw9 hV
        have v43 : vs 0 = _ := hV 0 _ _ rfl rfl (by decide)
        have v44 : vs 1 = .string (mkS (tblB (R.map TRow.abs))) := hV 1 _ _ rfl rfl (by decide)
        have v45 : vs 2 = .agg cs.toArray := hV 2 _ _ rfl rfl (by decide)
        have v46 : vs 3 = .string (mkS (tblB (R.map TRow.abs))) := hV 3 _ _ rfl rfl (by decide)
        have v47 : vs 4 = .bool true := hV 4 _ _ rfl rfl (by decide)
        have v4 : vs 5 = _ := hV 5 _ _ rfl rfl (by decide)
        clear hV
        simp only [putL, Act.put, Nat.reduceAdd, List.setIfInBounds_toArray, List.set_cons_zero, List.set_cons_succ, v43, v44, v45, v46, v47, v4]
        have F9 := hf.then' fw9
        go_wp2_with fail
        go_ret
        exact ⟨rfl, F9⟩
end Go.Proofs.Ytdngcheimohamaa
/- table.Copy. -/
namespace Go.Proofs.Ytdngcheimohamaa
open Go.RowKit
/-- The rows ahead of k are those of t, the others zero. -/
def copyK (t : List T3) (k : Nat) : List T3 := t.take k ++ zeroT.drop k
theorem copyK_zero (t : List T3) : copyK t 0 = zeroT := by simp [copyK]
theorem copyK_all {t : List T3} (h : t.length = 8) : copyK t 8 = t := by
  unfold copyK
  rw [List.take_of_length_le (by omega), List.drop_of_length_le (by decide), List.append_nil]
theorem copyK_succ {t : List T3} (h : t.length = 8) {k : Nat} (hk : k < 8) {x : T3} (hx : t[k]? = some x) : (copyK t k).set k x = copyK t (k + 1) := by
  unfold copyK
  rw [take_snoc' hx, List.set_append_right _ _ (by rw [List.length_take]; omega)]
  have e : k - (t.take k).length = 0 := by rw [List.length_take]; omega
  have hz : zeroT.drop k = (0, 0, []) :: zeroT.drop (k + 1) := by
    have hzl : zeroT.length = 8 := rfl
    rw [List.drop_eq_getElem_cons (show k < zeroT.length by omega)]
    congr 1
    exact List.getElem_replicate _
  rw [e, hz, List.set_cons_zero, List.append_assoc]; rfl
theorem flat_splice3 (r : TRow) : ∀ (R : List TRow) (i : Nat), i < R.length → (R.flatMap TRow.C).take (i * 3) ++ [.int .u64 r.num, .int .i64 r.e, .slice r.A r.n r.c] ++ (R.flatMap TRow.C).drop (i * 3 + [Value.int .u64 r.num, .int .i64 r.e, .slice r.A r.n r.c].length) = (R.set i r).flatMap TRow.C
  | [], i, h => by simp at h
  | b :: R, 0, _ => by simp [TRow.C]
  | b :: R, i + 1, h => by
    have ih := flat_splice3 r R i (by simpa using h)
    rw [List.set_cons_succ, List.flatMap_cons, List.flatMap_cons, ← ih]
    have e0 : (i + 1) * 3 = i * 3 + 3 := by omega
    rw [e0]
    simp [TRow.C]
theorem TblAt.setAt {w w' : World} {U : Nat → Prop} {p : Nat} {R : List TRow} (h : TblAt w U p R) {i : Nat} {r : TRow} (f : Fr (eqB p) w w') (hb : BlkAt w' p 94 ((R.set i r).flatMap TRow.C).toArray) (hat : r.At w' U p) : TblA w' U p ((R.map TRow.abs).set i r.abs) := by
  refine ⟨R.set i r, ⟨by rw [List.length_set]; exact h.len, hb, h.inU, fun y hy => ?_⟩, by rw [List.map_set]⟩
  rcases List.mem_or_eq_of_mem_set hy with h2 | h2
  · exact (h.rows y h2).fr f (fun k _ _ h3 h4 => h3 h4)
  · subst h2; exact hat
set_option maxRecDepth 100000 in
set_option maxHeartbeats 1600000 in
theorem copyT_calls (w : World) (U : Nat → Prop) (p : Nat) (t : List T3) (h : TblA w U p t) : Calls Try.prog 13 #[.pointer (some ⟨p, 0, none⟩)] w (fun e w' => ∃ q, w.heap.size ≤ q ∧ e = .returned (.pointer (some ⟨q, 0, none⟩)) ∧ TblA w' (upB w.heap.size) q t ∧ Fr noB w w') := by
  have hplt := h.lt
  have hnew := newTA_calls w
  obtain ⟨Rr, hR, rfl⟩ := h
  have hlen := hR.len
  have hsz : (Try.prog.info? 92).map (·.size) = some (Rr.flatMap TRow.C).length := by rw [flatC_len, hlen]; kernel_rfl
  have hidx := fun (i : Nat) (r : TRow) (hr : Rr[i]? = some r) W => tab_index hlen hr W
  have HL := hid hlen
  clear hlen
  obtain ⟨n0, hn0⟩ : ∃ n0, w.heap.size = n0 := ⟨_, rfl⟩
  rw [hn0] at hnew hplt ⊢
  go_enter Try.func13, Try.ntmps13
  go_wp2_with fail
  refine hnew.mono ?_
  rintro e w1 ⟨rfl, hz1, f1⟩
  have hR1 := hR.fr f1 (fun _ _ _ => id)
  clear hnew
  rw [← copyK_zero (Rr.map TRow.abs)] at hz1
  go_wp2_with (refine wpList_load_blk rfl rfl hR1.blk 0 rfl (cs := Rr.flatMap TRow.C) (by rw [List.drop_zero, List.take_length]) Try.underlying92 rfl hsz ?_)
  clear hR1
  go_loopw [11] (fun i wr => ∃ k : Nat, k ≤ 8 ∧ i = .int .i64 k ∧ TblA wr (upB n0) n0 (copyK (Rr.map TRow.abs) k) ∧ Fr noB w wr) (fun i _ => 8 - (intOf i).toNat)
  case atStart => exact ⟨0, by omega, rfl, hz1, f1⟩
  case round =>
    clear hz1 f1
    obtain ⟨k, hk, rfl, hT, hf⟩ := hrel
    by_cases hk8 : k < 8
    · obtain ⟨r, hr⟩ : ∃ r, Rr[k]? = some r := ⟨_, List.getElem?_eq_getElem (by rw [HL.out]; exact hk8)⟩
      have hix := hidx k r hr wr
      have hat := hR.rows r (List.mem_of_getElem? hr)
      have hrow0 := hat.row
      have hkl : keptL r.e r.l = r.l := by
        unfold keptL
        split
        · rfl
        · rename_i h; exact (hat.kept h).symm
      have hx : (Rr.map TRow.abs)[k]? = some r.abs := by rw [List.getElem?_map, hr]; rfl
      have HCS := hid (copyK_succ (t := Rr.map TRow.abs) (by rw [List.length_map]; exact HL.out) hk8 hx)
      have hz5 := BlkAt.new wr #[.int .u64 0, .int .i64 0, .slice none 0 0] 91
      have f5 : Fr noB wr (wr.alloc (.cells #[.int .u64 0, .int .i64 0, .slice none 0 0] 91)) := (Fr.refl noB wr).alloc _
      have hTl := hT.lt
      clear hr hx
      go_upto_region 5 with (first | (refine wpList_index rfl 92 (.tmp 10) (.tmp 11) rfl rfl rfl hix ?_) | (refine wpList_store_blk rfl rfl hz5 0 (vs := [.int .u64 r.num, .int .i64 r.e, .slice r.A r.n r.c]) rfl rfl (by kernel_rfl) (by kernel_rfl) (by simp) rfl ?_; intro w6 f6 hb6))
      have F6 : Fr noB w w6 := (hf.then' f5).trans f6 (fun i hi h => by unfold eqB at h; have := hf.size; omega)
      have hT6 : TblA w6 (upB n0) n0 (copyK (Rr.map TRow.abs) k) := by
        have := (hT.mono (V := fun k => upB n0 k ∧ k < wr.heap.size) (fun k hk h => ⟨h, hk⟩)).fr0 f5
        exact (this.fr f6 (fun k _ h h2 => by unfold eqB at h2; omega)).mono (fun k _ h => h.1)
      have hz5l : wr.heap.size < w6.heap.size := hb6.lt
      obtain ⟨z5, hz5e⟩ : ∃ z5, wr.heap.size = z5 := ⟨_, rfl⟩
      rw [hz5e] at hb6 hz5l hTl ⊢
      have hpa : n0 < w6.heap.size := by omega
      have hlenk : (copyK (Rr.map TRow.abs) k).length = 8 := hT.len
      have hn64 := hat.num
      have hrow6 := hrow0.fr0 F6
      have hcl := fun W hx => cloneT_calls W r.e r.A r.n r.c r.l hx hat.len hat.nil (by have := hat.few; omega)
      rw [hkl] at hcl
      clear hf f5 f6 hz5 hT hix hz5e hrow0
      apply wp_region_calm (R := Fr (eqB n0)) (C := fun q W => Fr (eqB n0) w6 W ∧ BlkAt W z5 91 #[.int .u64 r.num, .int .i64 r.e, .slice r.A r.n r.c] ∧ RowAt W r.A (strs r.l) ∧ PutTC (upB n0) n0 (copyK (Rr.map TRow.abs) k) ((copyK (Rr.map TRow.abs) k).set k (r.num, r.e, r.l)) q W) [false, false, false, false, false, false, false, false, false, false, false, true]
        [eqv _, eqv _, eqv _, eqv _, eqv _, eqv _, RepS w6 n0 hpa #[] r.e r.l, RepS w6 n0 hpa #[.int .u64 r.num] r.e r.l, eqv _, eqv _, eqv _, anyv]
        (by kernel_rfl) (by kernel_rfl) (fun _ _ _ h1 h2 => h1.then' h2) ((Fr.refl _ _).drew) ⟨(Fr.refl _ _).drew, hb6, hrow6, hT6.fr0 ((Fr.refl noB _).drew)⟩ (by kernel_rfl)
      · refine ⟨?_, ?_, ?_, ?_, ?_, ?_, ?_, ?_, ?_, ?_, ?_, ?_, trivial⟩
        · rw [if_neg (by decide)]; intro kq
          exact calm_mv 3 rfl rfl (Or.inl rfl) (Fr.refl _) (by decide) fun v w hd => hd
        · rw [if_neg (by decide)]; intro kq
          exact calm_mv 4 rfl rfl (Or.inl rfl) (Fr.refl _) (by decide) fun v w hd => hd
        · rw [if_neg (by decide)]; intro kq
          intro a W K hC hd hK
          have d5 : a.tmps[5]?.getD undef = .pointer (some ⟨z5, 0, none⟩) := hd 5 (by decide)
          refine wpOp_plain rfl rfl ?_
          obtain ⟨x0, x1, x2, xf⟩ := BlkAt.c3 hC.2.1
          go_wp2_with fail
          exact hK _ _ (Fr.refl _ _) hC rfl
        · rw [if_neg (by decide)]; intro kq
          intro a W K hC hd hK
          have d17 : _ = _ := hd 17 (by decide)
          refine wpOp_plain rfl rfl ?_
          obtain ⟨x0, x1, x2, xf⟩ := BlkAt.c3 hC.2.1
          go_wp2_with fail
          exact hK _ _ (Fr.refl _ _) hC rfl
        · rw [if_neg (by decide)]; intro kq
          intro a W K hC hd hK
          have d5 : a.tmps[5]?.getD undef = .pointer (some ⟨z5, 0, none⟩) := hd 5 (by decide)
          refine wpOp_plain rfl rfl ?_
          obtain ⟨x0, x1, x2, xf⟩ := BlkAt.c3 hC.2.1
          go_wp2_with fail
          exact hK _ _ (Fr.refl _ _) hC rfl
        · rw [if_neg (by decide)]; intro kq
          intro a W K hC hd hK
          have d19 : _ = _ := hd 19 (by decide)
          refine wpOp_plain rfl rfl ?_
          obtain ⟨x0, x1, x2, xf⟩ := BlkAt.c3 hC.2.1
          go_wp2_with fail
          exact hK _ _ (Fr.refl _ _) hC rfl
        · rw [if_neg (by decide)]; intro kq
          intro a W K hC hd hK
          have d20 : _ = _ := hd 20 (by decide)
          refine wpOp_plain rfl rfl ?_
          obtain ⟨x0, x1, x2, xf⟩ := BlkAt.c3 hC.2.1
          go_wp2_with fail
          refine (hcl W hC.2.2.1).mono ?_
          rintro e9 w9 ⟨A9, n9, c9, rfl, h9, f9⟩
          exact hK _ _ (f9.mono fun _ _ h => h.elim) ⟨hC.1.then' (f9.mono fun _ _ h => h.elim), hC.2.1.fr f9 id, hC.2.2.1.fr0 f9, hC.2.2.2.fr0 f9⟩ ⟨A9, n9, c9, rfl, h9.low hC.1.size⟩
        · rw [if_neg (by decide)]; intro kq
          intro a W K hC hd hK
          have d18 : _ = _ := hd 18 (by decide)
          have d21 : (RepS w6 n0 hpa #[] r.e r.l).V (a.tmps[21]?.getD undef) W := hd 21 (by decide)
          refine wpOp_plain rfl rfl ?_
          obtain ⟨A9, n9, c9, d21, h9⟩ := d21
          go_wp2_with fail
          exact hK _ _ (Fr.refl _ _) hC ⟨A9, n9, c9, rfl, h9⟩
        · rw [if_neg (by decide)]; intro kq
          intro a W K hC hd hK
          have d15 : _ = _ := hd 15 (by decide)
          refine wpOp_plain rfl rfl ?_
          go_wp2_with fail
          exact hK _ _ (Fr.refl _ _) hC rfl
        · rw [if_neg (by decide)]; intro kq
          intro a W K hC hd hK
          have d23 : _ = _ := hd 23 (by decide)
          refine wpOp_plain rfl rfl ?_
          obtain ⟨x0, x1, x2, xf⟩ := BlkAt.c3 hC.2.1
          go_wp2_with fail
          exact hK _ _ (Fr.refl _ _) hC rfl
        · rw [if_neg (by decide)]; intro kq
          intro a W K hC hd hK
          have d24 : _ = _ := hd 24 (by decide)
          have d16 : _ = _ := hd 16 (by decide)
          refine wpOp_plain rfl rfl ?_
          obtain ⟨x0, x1, x2, xf⟩ := BlkAt.c3 hC.2.1
          go_wp2_with fail
          exact hK _ _ (Fr.refl _ _) hC rfl
        · rw [if_pos (by decide)]
          intro a W K hC hd hK
          replace hC : (fun q W => Fr (eqB n0) w6 W ∧ BlkAt W z5 91 #[.int .u64 r.num, .int .i64 r.e, .slice r.A r.n r.c] ∧ RowAt W r.A (strs r.l) ∧ PutTC (upB n0) n0 (copyK (Rr.map TRow.abs) k) ((copyK (Rr.map TRow.abs) k).set k (r.num, r.e, r.l)) q W) 0 W := hC
          have d25 : _ = _ := hd 25 (by decide)
          have d22 : (RepS w6 n0 hpa #[.int .u64 r.num] r.e r.l).V (a.tmps[22]?.getD undef) W := hd 22 (by decide)
          refine wpOp_plain rfl rfl ?_
          obtain ⟨x0, x1, x2, xf⟩ := BlkAt.c3 hC.2.1
          obtain ⟨A9, n9, c9, d22, h9⟩ := d22
          obtain ⟨R, hR9, hab⟩ : TblA W (upB n0) n0 (copyK (Rr.map TRow.abs) k) := hC.2.2.2
          have hl9 : R.length = 8 := hR9.len
          have hs9 := hC.1.size
          have hat9 : TRow.At ⟨r.num, r.e, A9, n9, c9, r.l⟩ W (upB n0) n0 := ⟨h9.1, h9.2.1, h9.2.2.1, h9.2.2.2.1, fun a ea h0 => by have := h9.2.2.2.2.1 a ea h0; exact ⟨by unfold upB; omega, by omega, this.2⟩, h9.2.2.2.2.2, by have := hat.few; have := hat.len; have := h9.1; simp only []; omega, hat.sum, hn64, hat.e, hat.kept⟩
          refine wp_store_blk (P := Try.prog) (vs := [.int .u64 r.num, .int .i64 r.e, .slice A9 n9 c9]) rfl hR9.blk (k * 3) (by rw [eval_get]; exact d25) (by rw [eval_get]; exact d22) (by kernel_rfl) (by kernel_rfl) (by rw [flatC_len]; simp only [List.length_cons, List.length_nil]; omega) (flat_splice3 ⟨r.num, r.e, A9, n9, c9, r.l⟩ R k (by omega)) ?_
          intro W9 f9 hb9
          have hset : TblA W9 (upB n0) n0 ((copyK (Rr.map TRow.abs) k).set k (r.num, r.e, r.l)) := by rw [← hab]; exact hR9.setAt (r := ⟨r.num, r.e, A9, n9, c9, r.l⟩) f9 hb9 (hat9.fr f9 (fun k _ _ h3 h4 => h3 h4))
          exact hK undef _ f9 ⟨hC.1.then' f9, hC.2.1.fr f9 (by unfold eqB; omega), hC.2.2.1.fr f9 (fun a ea h0 hb h => by unfold eqB at h; have := (hat.blk a ea (by simp only [strs, List.length_map] at h0; have := hat.len; omega)).2.2; omega), hset⟩ trivial
      · intro vs w8 fw8 cw8 hV
        have v15 : vs 0 = _ := hV 0 _ _ rfl rfl (by decide)
        have v16 : vs 1 = _ := hV 1 _ _ rfl rfl (by decide)
        have v17 : vs 2 = _ := hV 2 _ _ rfl rfl (by decide)
        have v18 : vs 3 = _ := hV 3 _ _ rfl rfl (by decide)
        have v19 : vs 4 = _ := hV 4 _ _ rfl rfl (by decide)
        have v20 : vs 5 = _ := hV 5 _ _ rfl rfl (by decide)
        have v21 : (RepS w6 n0 hpa #[] r.e r.l).V (vs 6) w8 := hV 6 _ _ rfl rfl (by decide)
        have v22 : (RepS w6 n0 hpa #[.int .u64 r.num] r.e r.l).V (vs 7) w8 := hV 7 _ _ rfl rfl (by decide)
        have v23 : vs 8 = _ := hV 8 _ _ rfl rfl (by decide)
        have v24 : vs 9 = _ := hV 9 _ _ rfl rfl (by decide)
        have v25 : vs 10 = _ := hV 10 _ _ rfl rfl (by decide)
        clear hV
        simp only [putL, Act.put, Nat.reduceAdd, List.setIfInBounds_toArray, List.set_cons_zero, List.set_cons_succ, v15, v16, v17, v18, v19, v20, v23, v24, v25]
        have hT8 : TblA w8 (upB n0) n0 ((copyK (Rr.map TRow.abs) k).set k (r.num, r.e, r.l)) := cw8.2.2.2
        rw [show (r.num, r.e, r.l) = r.abs from rfl, HCS.out] at hT8
        have F8 : Fr noB w w8 := F6.trans fw8 (fun i hi h => by unfold eqB at h; omega)
        clear cw8
        go_wp2_with fail
        go_roundw
        case rel => exact ⟨k + 1, by omega, by go_num, hT8, F8⟩
        case measure => simp [intOf]; omega
    · obtain rfl : k = 8 := by omega
      rw [copyK_all (by rw [List.length_map]; exact HL.out)] at hT
      go_wp2_with fail
      go_ret
      exact ⟨n0, Nat.le_refl _, rfl, hT, hf⟩
end Go.Proofs.Ytdngcheimohamaa
/- table.Read of a table's own bytes. -/
namespace Go.Proofs.Ytdngcheimohamaa
open Go.RowKit
theorem flat_num (num : Nat) : ∀ (R : List TRow) (i : Nat) (r : TRow), R[i]? = some r → (R.set i { r with num := num }).flatMap TRow.C = (R.flatMap TRow.C).set (i * 3) (.int .u64 num)
  | [], i, r, h => by simp at h
  | b :: R, 0, r, h => by
    simp at h; subst h; simp [TRow.C]
  | b :: R, i + 1, r, h => by
    have ih := flat_num num R i r (by simpa using h)
    have e0 : (i + 1) * 3 = i * 3 + 3 := by omega
    rw [List.set_cons_succ, List.flatMap_cons, List.flatMap_cons, ih, e0]
    simp [TRow.C]
theorem flat_rep (e : Nat) (A : Option Addr) (n c : Nat) (l : List ByteArray) : ∀ (R : List TRow) (i : Nat) (r : TRow), R[i]? = some r →
    (R.flatMap TRow.C).take (i * 3 + 1) ++ [.int .i64 e, .slice A n c] ++ (R.flatMap TRow.C).drop (i * 3 + 1 + 2) = (R.set i ⟨r.num, e, A, n, c, l⟩).flatMap TRow.C
  | [], i, r, h => by simp at h
  | b :: R, 0, r, h => by
    simp at h; subst h; simp [TRow.C]
  | b :: R, i + 1, r, h => by
    have ih := flat_rep e A n c l R i r (by simpa using h)
    have e0 : (i + 1) * 3 + 1 = i * 3 + 1 + 3 := by omega
    have e1 : i * 3 + 1 + 3 + 2 = i * 3 + 1 + 2 + 3 := by omega
    rw [List.set_cons_succ, List.flatMap_cons, List.flatMap_cons, ← ih, e0, e1]
    simp [TRow.C]
theorem TblA.cells {w : World} {U : Nat → Prop} {p : Nat} {t : List T3} (h : TblA w U p t) {i : Nat} {x : T3} (hx : t[i]? = some x) : ∃ R r, TblAt w U p R ∧ R.map TRow.abs = t ∧ R[i]? = some r ∧ r.abs = x := by
  obtain ⟨R, h1, rfl⟩ := h
  rw [List.getElem?_map] at hx
  cases hr : R[i]? with
  | none => rw [hr] at hx; cases hx
  | some r => rw [hr] at hx; exact ⟨R, r, h1, rfl, hr, by simpa using hx⟩
theorem TblA.setNum {w : World} {U : Nat → Prop} {p : Nat} {t : List T3} (h : TblA w U p t) {i : Nat} {x : T3} (hx : t[i]? = some x) {num : Nat} (hn : num < 18446744073709551616) : TblA (w.setCell ⟨p, i * 3, none⟩ (.int .u64 num)) U p (t.set i (num, x.2)) := by
  obtain ⟨R, r, h1, rfl, hr, rfl⟩ := h.cells hx
  refine ⟨R.set i { r with num := num }, ⟨by rw [List.length_set]; exact h1.len, ?_, h1.inU, fun y hy => ?_⟩, by rw [List.map_set]; rfl⟩
  · have := h1.blk.set (i * 3) (.int .u64 num)
    rw [flat_num num R i r hr]
    simpa using this
  · have f := fr_set1 w p (i * 3) (.int .u64 num)
    rcases List.mem_or_eq_of_mem_set hy with h2 | h2
    · exact (h1.rows y h2).fr f (fun k _ _ h3 h4 => h3 h4)
    · subst h2
      have q := (h1.rows r (List.mem_of_getElem? hr)).fr f (fun k _ _ h3 h4 => h3 h4)
      exact ⟨q.len, q.cap, q.max, q.row, q.blk, q.nil, q.few, q.sum, hn, q.e, q.kept⟩
theorem TblAt.setRep {w w' : World} {U : Nat → Prop} {p : Nat} {R : List TRow} (h : TblAt w U p R) {i : Nat} {r : TRow} (hr : R[i]? = some r) (f : Fr (eqB p) w w') {e : Nat} {A : Option Addr} {n c : Nat} {l : List ByteArray}
    (hb : BlkAt w' p 94 ((R.set i ⟨r.num, e, A, n, c, l⟩).flatMap TRow.C).toArray) (hat : TRow.At ⟨r.num, e, A, n, c, l⟩ w' U p) : TblA w' U p ((R.map TRow.abs).set i (r.num, e, l)) := by
  refine ⟨R.set i ⟨r.num, e, A, n, c, l⟩, ⟨by rw [List.length_set]; exact h.len, hb, h.inU, fun y hy => ?_⟩, by rw [List.map_set]; rfl⟩
  rcases List.mem_or_eq_of_mem_set hy with h2 | h2
  · exact (h.rows y h2).fr f (fun k _ _ h3 h4 => h3 h4)
  · subst h2; exact hat
theorem copyK_get {t : List T3} (h : t.length = 8) {k : Nat} (hk : k < 8) : (copyK t k)[k]? = some (0, 0, []) := by
  unfold copyK
  rw [List.getElem?_append_right (by rw [List.length_take]; omega), List.length_take, show k - min k t.length = 0 by omega, List.getElem?_drop]
  show (List.replicate 8 ((0 : Nat), (0 : Nat), ([] : List ByteArray)))[k + 0]? = _
  rw [List.getElem?_replicate, if_pos (by omega)]
theorem tblB_drop {t : List T3} {k : Nat} {x : T3} (h : t[k]? = some x) : tblB (t.drop k) = rowT x ++ tblB (t.drop (k + 1)) := by
  unfold tblB
  obtain ⟨hk, rfl⟩ := List.getElem?_eq_some_iff.1 h
  rw [List.drop_eq_getElem_cons hk, List.flatMap_cons]
set_option maxRecDepth 100000 in
set_option maxHeartbeats 1600000 in
theorem readT_calls (w : World) (S : Nat → Prop) (p : Nat) (t : List T3) (hr : RdAt w S p ⟨tblB t, 0⟩) (hS : ∀ k, S k → k < w.heap.size) (hg : GoodT t) (hm : ∀ x ∈ t, x.1 ≤ 1099511627776) :
    Calls Try.prog 16 #[.pointer (some ⟨p, 0, none⟩)] w (fun e w' => ∃ q, w.heap.size ≤ q ∧ e = .returned (.pointer (some ⟨q, 0, none⟩)) ∧ TblA w' (upB w.heap.size) q t ∧ RdAt w' S p ⟨[], 0⟩ ∧ Fr S w w') := by
  have hnew := newTA_calls w
  obtain ⟨n0, hn0⟩ : ∃ n0, w.heap.size = n0 := ⟨_, rfl⟩
  rw [hn0] at hnew hS ⊢
  have HG := hid hg
  have HM := hid hm
  clear hg hm
  go_enter Try.func16, Try.ntmps16
  go_wp2_with fail
  refine hnew.mono ?_
  rintro e w1 ⟨rfl, hz1, f1⟩
  have hr1 := hr.fr f1 (fun _ _ _ => id)
  rw [← copyK_zero t] at hz1
  clear hnew hr
  go_wp2_with fail
  go_loopw [10] (fun i wr => ∃ k : Nat, k ≤ 8 ∧ i = .int .i64 k ∧ TblA wr (upB n0) n0 (copyK t k) ∧ RdAt wr S p ⟨tblB (t.drop k), 0⟩ ∧ Fr S w wr) (fun i _ => 8 - (intOf i).toNat)
  case atStart => exact ⟨0, by omega, rfl, hz1, hr1, f1.mono (fun _ _ h => h.elim)⟩
  case round =>
    clear hz1 hr1 f1
    obtain ⟨k, hk, rfl, hT, hrd, hf⟩ := hrel
    by_cases hk8 : k < 8
    · obtain ⟨x, hx⟩ : ∃ x, t[k]? = some x := ⟨_, List.getElem?_eq_getElem (by rw [HG.out.len]; exact hk8)⟩
      have hgx := HG.out.rows x (List.mem_of_getElem? hx)
      have hmx := HM.out x (List.mem_of_getElem? hx)
      have HTD := hid (tblB_drop hx)
      have hgk := copyK_get HG.out.len hk8
      have hlk : (copyK t k).length = 8 := hT.len
      have HCS := hid (copyK_succ HG.out.len hk8 hx)
      obtain ⟨num, e, l⟩ := x
      rw [HTD.out] at hrd
      have hrow : rowT (num, e, l) = leB 8 num ++ (if 0 < num then textB (mkS (repB e l)) else []) := rfl
      rw [hrow, List.append_assoc] at hrd
      have h8 := eightRd_calls wr S p _ hrd
      rw [rNum_app] at h8
      have hn64 : num % 256 ^ 8 = num := Nat.mod_eq_of_lt hgx.num
      simp only [hn64] at h8
      have hkb : 0 ≤ (k : Int) ∧ (k : Int) < 8 := ⟨by omega, by omega⟩
      clear hrow hrd hx
      go_wp2_with fail
      refine h8.mono ?_
      rintro ed w2 ⟨rfl, hr2, f2⟩
      have hT2 := hT.fr f2 (fun k hk h1 h2 => by have := hS k h2; unfold upB at h1; omega)
      have F2 := hf.then' f2
      have hcell : w2.cell? ⟨n0, k * 3, none⟩ = some (.int .u64 0) ∧ ∀ j, w2.frozen? ⟨n0, j, none⟩ = false := by
        obtain ⟨R, r, hR, _, hr, hra⟩ := hT2.cells hgk
        obtain ⟨c0, _, _⟩ := hR.cells hr
        have : r.num = 0 := congrArg Prod.fst hra
        rw [this] at c0
        exact ⟨c0, hR.blk.free⟩
      obtain ⟨hc0, hfz⟩ := hcell
      go_upto_region 7 with fail
      have f3 := fr_set1 w2 n0 (k * 3) (.int .u64 num)
      have hT3 := hT2.setNum hgk hgx.num
      have hr3 := hr2.fr f3 (fun j _ h1 h2 => by have := hS j h1; unfold eqB at h2; omega)
      have F3 : Fr S w (w2.setCell ⟨n0, k * 3, none⟩ (.int .u64 num)) := F2.trans f3 (fun i hi h => by unfold eqB at h; omega)
      clear hT hT2 hr2 F2 f2 f3 hc0 hfz hf h8 hgk
      generalize (w2.setCell ⟨n0, k * 3, none⟩ (.int .u64 num)) = w3 at *
      have hl3 : ((copyK t k).set k (num, 0, []))[k]? = some (num, 0, []) := by
        rw [List.getElem?_set_self (by rw [hlk]; exact hk8)]
      have hcell : w3.cell? ⟨n0, k * 3, none⟩ = some (.int .u64 num) := by
        obtain ⟨R, r, hR, _, hr, hra⟩ := hT3.cells hl3
        obtain ⟨c0, _, _⟩ := hR.cells hr
        have : r.num = num := congrArg Prod.fst hra
        rwa [this] at c0
      have tmx : decide (1099511627776 < num) = false := decide_eq_false (by have : num ≤ 1099511627776 := hmx; omega)
      have tmx2 : decide ((1099511627776 : Int) < num) = false := decide_eq_false (by have : num ≤ 1099511627776 := hmx; omega)
      go_wp2_with fail
      refine (errRd_calls w3 S p _ hr3).mono ?_
      rintro ed w4 ⟨rfl, rfl⟩
      by_cases h0 : num = 0
      · have h00 := hgx.zero h0
        simp only [] at h00
        obtain ⟨rfl, rfl⟩ := h00
        subst h0
        rw [HCS.out] at hT3
        rw [if_neg (by decide), List.nil_append] at hr3
        clear hgx hmx hl3 HCS
        go_wp2_with fail
        go_roundw
        case rel => exact ⟨k + 1, by omega, by go_num, hT3, hr3, F3⟩
        case measure => simp [intOf]; omega
      · have t0 : ((num : Int) == 0) = false := by rw [beq_eq_false_iff_ne]; omega
        have t0' : (num == 0) = false := by rw [beq_eq_false_iff_ne]; exact h0
        rw [if_pos (by omega)] at hr3
        have hrl := repB_length e l
        have hsum := hgx.sum
        simp only [] at hsum
        have htx := textRd_calls w3 S p _ 65535 hr3 (by omega) (by omega)
        rw [rText_app _ _ _ (by rw [mkS_size]; omega) (by rw [mkS_size]; omega)] at htx
        have hget := fun W A n c hx hn hB => opGet_calls W A n c (repB e l) hx hn hB (by rw [← hn]; omega)
        rw [repGet_put hgx.e hgx.few (fun s hs => by have := hgx.small s hs; omega)] at hget
        have hkl : (if e = 0 then l else []) = l := by
          split
          · rfl
          · rename_i h; exact (hgx.kept h).symm
        rw [hkl] at hget
        simp only [mkS_data] at htx
        have hsz : (repB e l).length ≤ 60000 := by omega
        generalize hrb : repB e l = rb at *
        clear hrb h0 tmx tmx2 hr3
        go_wp2_with fail
        refine htx.mono ?_
        rintro ed w5 ⟨rfl, hr5, f5⟩
        have hT5 := hT3.fr f5 (fun k hk h1 h2 => by have := hS k h2; unfold upB at h1; omega)
        have F5 := F3.then' f5
        clear hT3 f5 F3 htx hcell
        go_wp2_with fail
        refine (errRd_calls w5 S p _ hr5).mono ?_
        rintro ed w6 ⟨rfl, rfl⟩
        have hcv := Try.fromStr w5 (mkS rb)
        have hcf := bytesW_fr w5 (mkS rb)
        have hcr := bytesW_row w5 (mkS rb)
        rw [mkS_data] at hcr
        rw [mkS_size] at hcv
        have hT6 := hT5.fr0 hcf
        have hr6 := hr5.fr hcf (fun _ _ _ => id)
        have F6 := F5.then' (hcf.mono fun _ _ h => h.elim)
        have hs6 := hcf.size
        have hn06 := hT6.lt
        have hget6 := hget (Lib.bytesWorld w5 5 (mkS rb)) (some ⟨w5.heap.size, 0, none⟩) rb.length (grownCap w5 rb.length 0 5) hcr rfl (fun h => by cases h)
        generalize (grownCap w5 rb.length 0 5) = cc at *
        generalize (Lib.bytesWorld w5 5 (mkS rb)) = w6 at *
        clear hT5 hr5 F5 hget hcf hcr
        go_wp2_with fail
        refine hget6.mono ?_
        rintro ed w7 ⟨A7, n7, c7, rfl, hn7, hro7, hge7, hca7, hcm7, hni7, f7⟩
        have hT7 := hT6.fr0 f7
        have hr7 := hr6.fr f7 (fun _ _ _ => id)
        have F7 := F6.then' (f7.mono fun _ _ h => h.elim)
        have hs7 := f7.size
        have hz := BlkAt.new w7 #[.int .i64 0, .slice none 0 0] 42
        have f8 : Fr noB w7 (w7.alloc (.cells #[.int .i64 0, .slice none 0 0] 42)) := (Fr.refl noB w7).alloc _
        have hlt7 := hT7.lt
        have hrlt : ∀ k, S k → k < w7.heap.size := fun k hk => by have := hS k hk; omega
        have hrown := fun ad (e : A7 = some ad) (h0 : 0 < n7) => (show RowAt w7 (some ad) (strs l) from e ▸ hro7).lt (by simp only [strs, List.length_map]; rw [hn7.out]; exact h0)
        clear hget6 f7 hT6 hr6 F6
        go_upto_region 16 with (refine wpList_store_blk rfl rfl hz 0 (vs := [.int .i64 e, .slice A7 n7 c7]) rfl rfl (by kernel_rfl) (by kernel_rfl) (by simp) rfl ?_; intro w9 f9 hb9)
        have hT9 : TblA w9 (upB n0) n0 ((copyK t k).set k (num, 0, [])) := by
          have := (hT7.mono (V := fun k => upB n0 k ∧ k < w7.heap.size) (fun k hk h => ⟨h, hk⟩)).fr0 f8
          exact (this.fr f9 (fun k _ h h2 => by unfold eqB at h2; omega)).mono (fun k _ h => h.1)
        have hr9 := (hr7.fr f8 (fun _ _ _ => id)).fr f9 (fun j _ h1 h2 => by have := hrlt j h1; unfold eqB at h2; omega)
        have F9 : Fr S w w9 := (F7.then' (f8.mono fun _ _ h => h.elim)).trans f9 (fun i hi h => by unfold eqB at h; have := F7.size; omega)
        have hro9 := (hro7.fr0 f8).fr f9 (fun ad e h0 h1 h2 => by unfold eqB at h2; have := hrown ad e (by simp only [strs, List.length_map] at h0; rw [← hn7.out]; exact h0); omega)
        have hs9 := f9.size
        rw [al_size] at hs9
        obtain ⟨z7, hz7⟩ : ∃ z7, w7.heap.size = z7 := ⟨_, rfl⟩
        rw [hz7] at hb9 hrown hs9 hs7 ⊢
        clear hz f8 f9 hT7 hr7 F7 hro7 hlt7
        obtain ⟨x0, x1, xf⟩ := BlkAt.c2 hb9
        obtain ⟨R, r, hR, hRa, hRr, hra⟩ := hT9.cells hl3
        have hrn : r.num = num := congrArg Prod.fst hra
        have hflat := flat_rep e A7 n7 c7 l R k r hRr
        rw [hrn] at hflat
        have hlR := hR.len
        have HF := hid hflat
        clear hflat
        go_wp2_with (refine wpList_store_blk rfl rfl hR.blk (k * 3 + 1) (vs := [.int .i64 e, .slice A7 n7 c7]) rfl rfl (by kernel_rfl) (by kernel_rfl) (by rw [flatC_len]; simp only [List.length_cons, List.length_nil]; omega) HF.out ?_; intro w10 f10 hb10)
        have hat10 : TRow.At ⟨r.num, e, A7, n7, c7, l⟩ w10 (upB n0) n0 := by
          refine TRow.At.fr (w := w9) ⟨hn7.out, hca7, hcm7, hro9, fun a ea h0 => ?_, hni7, ?_, ?_, ?_, ?_, hgx.kept⟩ f10 (fun k _ _ h3 h4 => h3 h4)
          · have := hge7 a ea; have := hrown a ea h0
            exact ⟨by unfold upB; omega, by omega, by omega⟩
          · have := hgx.few; have := hn7.out; simp only [] at *; omega
          · simp only [] at *; omega
          · have := hgx.num; simp only [] at *; omega
          · have := hgx.e; simp only [] at *; omega
        rw [← hrn] at hb10
        have hT10 := hR.setRep hRr f10 hb10 hat10
        rw [hRa, hrn, List.set_set, HCS.out] at hT10
        have hr10 := hr9.fr f10 (fun j _ h1 h2 => by have := hS j h1; unfold eqB at h2; omega)
        have F10 : Fr S w w10 := F9.trans f10 (fun i hi h => by unfold eqB at h; omega)
        go_roundw
        case rel => exact ⟨k + 1, by omega, by go_num, hT10, hr10, F10⟩
        case measure => simp [intOf]; omega
    · obtain rfl : k = 8 := by omega
      rw [copyK_all HG.out.len] at hT
      have hd : tblB (t.drop 8) = [] := by rw [List.drop_of_length_le (by rw [HG.out.len]; omega)]; rfl
      rw [hd] at hrd
      go_wp2_with fail
      go_ret
      exact ⟨n0, Nat.le_refl _, rfl, hT, hrd, hf⟩
end Go.Proofs.Ytdngcheimohamaa
/- A map[[2]uint64]int as a function of two numbers. -/
namespace Go.Proofs.Ytdngcheimohamaa
open Go.RowKit Go.Maps Go.WideShapes

theorem Try.zeroI (w : World) : (zeroValue 3).run Try.prog w = .ok (.int .i64 0) w := by kernel_rfl
theorem wf_u64 {n : Nat} (h : n < 18446744073709551616) : (Lit.int .u64 (n : Int)).wf = true := by
  simp [Lit.wf, IntKind.min, IntKind.max, IntKind.bits, IntKind.signed]; omega
theorem wf_i64 {n : Nat} (h : n < 9223372036854775808) : (Lit.int .i64 (n : Int)).wf = true := by
  simp [Lit.wf, IntKind.min, IntKind.max, IntKind.bits, IntKind.signed]; omega
def K2 (x y : Nat) : Lit := .string (keyBytes [.int .u64 (x : Int), .int .u64 (y : Int)])
def putF2 (f : Nat → Nat → Nat) (x y c : Nat) : Nat → Nat → Nat := fun a b => if a = x ∧ b = y then c else f a b
open Go.ChangeMaps (setBlock heap_setBlock_same heap_setBlock_other)
theorem fr_setBlock {w : World} {b : Nat} {es : Array MapEntry} {clock : Nat} (hb : w.heap[b]? = some (.map es clock)) (o : Obj) : Fr (eqB b) w (setBlock w b o) :=
  ⟨rfl, rfl, rfl, by simp [setBlock], fun _ _ hk => heap_setBlock_other hb o (fun e => hk e)⟩
end Go.Proofs.Ytdngcheimohamaa
/- interrexlaw15.TableRises: the walk. -/
namespace Go.Proofs.Ytdngcheimohamaa
open Go.RowKit

theorem lastA_set {t : List T3} {i c : Nat} {x : T3} (hi : i < t.length) : lastA (t.set i x) c = if c = i then x.1 else lastA t c := by
  unfold lastA
  by_cases h : c = i
  · subst h; rw [if_pos rfl, List.getElem?_set_self hi]; rfl
  · rw [if_neg h, List.getElem?_set_ne (fun e => h e.symm)]
theorem putA_ok {t : List T3} {i num e : Nat} {l : List ByteArray} (hl : t.length = 8) (h : (putA t i num e l).2 = 0) :
    i < 8 ∧ lastA t i < num ∧ num ≤ 1099511627776 ∧ lastA (putA t i num e l).1 i = num ∧ repA (putA t i num e l).1 i = (e, keptL e l) ∧ judgeA (putA t i num e l).1 i num = 2 := by
  unfold putA at h ⊢
  split at h
  · cases h
  · split at h
    · rename_i h0 h3
      obtain ⟨h1, h2, h4, h5⟩ := judge_lt h3
      rw [if_neg h0, if_pos h3]
      have hla : lastA (t.set i (num, e, keptL e l)) i = num := by rw [lastA_set (by omega), if_pos rfl]
      refine ⟨h1, h5, h4, hla, ?_, ?_⟩
      · unfold repA; rw [List.getElem?_set_self (by omega)]; rfl
      · unfold judgeA; rw [hla, if_neg (by omega), if_neg (by omega), if_pos rfl]
    · cases h
theorem putA_last {t : List T3} {i num e : Nat} {l : List ByteArray} (hl : t.length = 8) (c : Nat) :
    lastA t c ≤ lastA (putA t i num e l).1 c ∧ ((c ≠ i ∨ (putA t i num e l).2 ≠ 0) → lastA (putA t i num e l).1 c = lastA t c) := by
  unfold putA
  split
  · exact ⟨Nat.le_refl _, fun _ => rfl⟩
  · split
    · rename_i h0 h3
      obtain ⟨h1, h2, h4, h5⟩ := judge_lt h3
      rw [lastA_set (by omega)]
      by_cases hc : c = i
      · subst hc; rw [if_pos rfl]; exact ⟨by simp only []; omega, fun h => by simp at h⟩
      · rw [if_neg hc]; exact ⟨Nat.le_refl _, fun _ => rfl⟩
    · exact ⟨Nat.le_refl _, fun _ => rfl⟩
/-- What was taken is not above the last. -/
def RiseI (t : List T3) (f : Nat → Nat → Nat) : Prop := ∀ x y, 0 < f x y → y ≤ lastA t x
theorem RiseI.put {t : List T3} {f : Nat → Nat → Nat} (h : RiseI t f) {i num e : Nat} {l : List ByteArray} (hl : t.length = 8) : RiseI (putA t i num e l).1 f := fun x y h0 =>
  Nat.le_trans (h x y h0) (putA_last hl x).1
theorem RiseI.took {t : List T3} {f : Nat → Nat → Nat} (h : RiseI t f) {i num e c : Nat} {l : List ByteArray} (hl : t.length = 8) (hk : (putA t i num e l).2 = 0) : RiseI (putA t i num e l).1 (putF2 f i num c) := fun x y h0 => by
  unfold putF2 at h0
  split at h0
  · rename_i e1
    obtain ⟨rfl, rfl⟩ := e1
    rw [(putA_ok hl hk).2.2.2.1]
    exact Nat.le_refl _
  · exact h.put hl x y h0
theorem RiseI.new {t : List T3} {f : Nat → Nat → Nat} (h : RiseI t f) {i num e : Nat} {l : List ByteArray} (hl : t.length = 8) (hk : (putA t i num e l).2 = 0) : f i num = 0 := by
  have h1 := (putA_ok hl hk).2.1
  rcases Nat.eq_zero_or_pos (f i num) with h0 | h0
  · exact h0
  · have := h i num h0; omega
/-- The row of last numbers, as far as it is filled. -/
def wasC (t : List T3) (j : Nat) : Array Value := ((List.range 8).map fun c => Value.int .u64 ((if c < j then lastA t c else 0 : Nat) : Int)).toArray
theorem wasC_get (t : List T3) (j c : Nat) (hc : c < 8) : (wasC t j)[c]? = some (.int .u64 ((if c < j then lastA t c else 0 : Nat) : Int)) := by
  unfold wasC
  simp [hc]
theorem wasC_set (t : List T3) (j : Nat) (hj : j < 8) : (wasC t j).setIfInBounds j (.int .u64 (lastA t j : Nat)) = wasC t (j + 1) := by
  apply Array.ext_getElem?
  intro c
  by_cases hc : c < 8
  · rw [wasC_get t (j + 1) c hc, Array.getElem?_setIfInBounds]
    by_cases h : j = c
    · subst h; simp [wasC, hj]
    · rw [if_neg h, wasC_get t j c hc]
      have : (c < j) = (c < j + 1) := by rw [eq_iff_iff]; omega
      simp only [this]
  · rw [Array.getElem?_eq_none (by simp [wasC]; omega), Array.getElem?_eq_none (by simp [wasC]; omega)]
theorem wasC_zero (t : List T3) : wasC t 0 = #[.int .u64 0, .int .u64 0, .int .u64 0, .int .u64 0, .int .u64 0, .int .u64 0, .int .u64 0, .int .u64 0] := rfl
/-- A reply that lies in new memory. -/
def RepN (e : Nat) (l : List ByteArray) : Stb (Fr noB) :=
  ⟨fun v W => ∃ A n c, v = .agg #[.int .i64 e, .slice A n c] ∧ l.length = n ∧ RowAt W A (strs l), fun _ _ _ ⟨A, n, c, h1, h2, h3⟩ f => ⟨A, n, c, h1, h2, h3.fr0 f⟩⟩
end Go.Proofs.Ytdngcheimohamaa
/- interrexlaw15.TablePlays: the walk. -/
namespace Go.Proofs.Ytdngcheimohamaa
open Go.RowKit

theorem judge_same (R : List TRow) (i num : Nat) : judgeA (R.map TRow.abs) i num = judgeV R i num := by
  unfold judgeA judgeV; rw [lastA_eq]
theorem judgeV_nat (R : List TRow) (i num : Nat) : ∃ v : Nat, judgeV R i num = v ∧ v ≤ 3 := by
  unfold judgeV
  split
  · exact ⟨0, rfl, by omega⟩
  · split
    · exact ⟨1, rfl, by omega⟩
    · split
      · exact ⟨2, rfl, by omega⟩
      · exact ⟨3, rfl, by omega⟩
/-- The reference's table. -/
structure RTab (w : World) (R : List TRow) : Prop where
  len : R.length = 8
  sub : ∀ r ∈ R, r.l.length = r.n ∧ RowAt w r.A (strs r.l) ∧ (r.A = none → r.n = 0 ∧ r.c = 0)
  good : GoodT (R.map TRow.abs)
  top : ∀ x ∈ R.map TRow.abs, x.1 ≤ 1099511627776
theorem RTab.ra {w W : World} {R : List TRow} (h : RTab w R) (f : Fr noB w W) : ∀ r ∈ R, r.RA W := fun r hr =>
  ⟨(h.sub r hr).1, (h.sub r hr).2.1.fr0 f, (h.sub r hr).2.2, h.good.rows _ (List.mem_map_of_mem hr)⟩
def zeroR8 : List TRow := List.replicate 8 zeroRow
theorem zeroR8_tab (w : World) : RTab w zeroR8 := by
  refine ⟨rfl, fun r hr => ?_, zeroT_good, fun x hx => ?_⟩
  · unfold zeroR8 at hr
    rw [List.mem_replicate] at hr
    rw [hr.2]
    exact ⟨rfl, RowAt.nil _ _, fun _ => ⟨rfl, rfl⟩⟩
  · have : zeroR8.map TRow.abs = List.replicate 8 (0, 0, []) := rfl
    rw [this, List.mem_replicate] at hx
    rw [hx.2]; exact Nat.zero_le _
theorem putRR_calls {w W : World} {R : List TRow} (h : RTab w R) (f : Fr noB w W) (i num e : Nat) (A : Option Addr) (n c : Nat) (l : List ByteArray) (he : e < 19) (hn : l.length = n) (hl : n ≤ 10) (hs : ∀ s ∈ l, s.size ≤ 50) (hx : RowAt w A (strs l)) (hni : A = none → n = 0 ∧ c = 0) :
    Calls Try.prog 10 #[.agg (R.flatMap TRow.C).toArray, .int .u8 i, .int .u64 num, .agg #[.int .i64 e, .slice A n c]] W
      (fun ed w' => ∃ R', ed = .returned (.tuple #[.agg (R'.flatMap TRow.C).toArray, .int .i64 ((putA (R.map TRow.abs) i num e l).2 : Nat)]) ∧ RTab w R' ∧ R'.map TRow.abs = (putA (R.map TRow.abs) i num e l).1 ∧ Fr noB W w') := by
  have hpg := putA_good h.good (i := i) (num := num) he (by rw [hn]; exact hl) hs
  obtain ⟨v, hv, hv3⟩ := judgeV_nat R i num
  have hja := judge_same R i num
  rw [hv] at hja
  by_cases h3 : v = 3
  · subst h3
    have hpa : putA (R.map TRow.abs) i num e l = ((R.map TRow.abs).set i (num, e, keptL e l), 0) := by
      unfold putA; rw [hja, if_neg (by decide), if_pos (by decide)]
    rw [hpa] at hpg ⊢
    obtain ⟨hi8, hn0, hntop, _⟩ := judge_lt hja
    refine (putR_yes W R h.len i num e A n c l hv).mono ?_
    rintro ed w' ⟨rfl, f'⟩
    have hab : (putRow num e A n c l).abs = (num, e, keptL e l) := by
      unfold putRow keptL
      split <;> rfl
    have hm : (R.set i (putRow num e A n c l)).map TRow.abs = (R.map TRow.abs).set i (num, e, keptL e l) := by rw [List.map_set, hab]
    refine ⟨_, rfl, ⟨by rw [List.length_set]; exact h.len, fun r hr => ?_, by rw [hm]; exact hpg, fun x hx => ?_⟩, hm, f'⟩
    · rcases List.mem_or_eq_of_mem_set hr with hr | hr
      · exact h.sub r hr
      · subst hr
        unfold putRow
        split
        · exact ⟨hn, hx, hni⟩
        · exact ⟨rfl, RowAt.nil _ _, fun _ => ⟨rfl, rfl⟩⟩
    · rw [hm] at hx
      rcases List.mem_or_eq_of_mem_set hx with hx | hx
      · exact h.top x hx
      · subst hx; exact hntop
  · have hk : (v = 0 ∧ (putA (R.map TRow.abs) i num e l).2 = 1) ∨ (v = 1 ∧ (putA (R.map TRow.abs) i num e l).2 = 12) ∨ (v = 2 ∧ (putA (R.map TRow.abs) i num e l).2 = 12) := by
      unfold putA
      rw [hja]
      rcases (by omega : v = 0 ∨ v = 1 ∨ v = 2) with rfl | rfl | rfl
      · exact .inl ⟨rfl, rfl⟩
      · exact .inr (.inl ⟨rfl, rfl⟩)
      · exact .inr (.inr ⟨rfl, rfl⟩)
    have hp1 : (putA (R.map TRow.abs) i num e l).1 = R.map TRow.abs := by
      unfold putA
      rw [hja]
      rcases (by omega : v = 0 ∨ v = 1 ∨ v = 2) with rfl | rfl | rfl <;> rfl
    refine (putR_no W R h.len i num e A n c _ v hv hk).mono ?_
    rintro ed w' ⟨rfl, f'⟩
    exact ⟨R, rfl, h, hp1.symm, f'⟩
/-- The blocks of the program's table. -/
def PlU (n1 b8 : Nat) : Nat → Prop := fun k => n1 ≤ k ∧ k ≠ b8
def PlI (w wr : World) (p b8 : Nat) (R : List TRow) : Prop := TblA wr (PlU w.heap.size b8) p (R.map TRow.abs) ∧ BlkAt wr b8 34 (R.flatMap TRow.C).toArray ∧ RTab w R ∧ w.heap.size ≤ p ∧ Fr noB w wr ∧ p ≠ b8
end Go.Proofs.Ytdngcheimohamaa
/- interrexlaw15.TablePlays: the walk. -/
namespace Go.Proofs.Ytdngcheimohamaa
open Go.RowKit
theorem RdAt.cut {w : World} {S : Nat → Prop} {p : Nat} {r : Rd} (h : RdAt w S p r) : RdAt w (fun k => S k ∧ k < w.heap.size) p r := by
  obtain ⟨A, n, c, ty, h⟩ := h
  refine ⟨A, n, c, ty, h.len, h.heap, h.row, h.cap, h.max, h.nil, ⟨h.inS, (Array.getElem?_eq_some_iff.1 h.heap).1⟩, fun h0 a e => ⟨⟨(h.rowS h0 a e).1, ?_⟩, (h.rowS h0 a e).2⟩, h.err⟩
  have hr := h.row
  rw [e] at hr
  exact hr.lt (by rw [bcells_length, h.len.out]; exact h0)
set_option maxRecDepth 100000 in
set_option maxHeartbeats 1600000 in
theorem plays_few (w : World) (A : Option Addr) (c n : Nat) (L : List ActT) (cl num : Nat) (hL : ActsAt w A L) (HN : Hid (L.length = n)) (hn : n ≤ 9223372036854775807) (HO : Hid (∀ a ∈ L, a.ok)) (e1 : fewT L = false) :
    Calls Try.prog 3 #[.slice A n c, .int .u8 cl, .int .u64 num] w (BoolPost w true) := by
  have hf1 := fun W hx => few15_calls W A c n L hx HN hn HO.out
  have hlv := lives15_calls
  rw [e1] at hf1
  clear e1
  go_enter Try.func3, Try.ntmps3
  go_wp2_with fail
  refine (hlv w).mono ?_
  rintro e w1 ⟨rfl, f1⟩
  go_wp2_with fail
  refine (hf1 w1 (hL.fr0 f1)).mono ?_
  rintro e w2 ⟨rfl, f2⟩
  go_wp2_with fail
  refine (hlv w2).mono ?_
  rintro e w3 ⟨rfl, f3⟩
  go_wp2_with fail
  go_ret
  exact BoolPost.mk' rfl ((f1.then' f2).then' f3)
set_option maxRecDepth 100000 in
set_option maxHeartbeats 3200000 in
theorem plays_walk (w : World) (A : Option Addr) (c n : Nat) (L : List ActT) (cl num : Nat) (hL : ActsAt w A L) (HN : Hid (L.length = n)) (hn : n ≤ 9223372036854775807) (HO : Hid (∀ a ∈ L, a.ok)) (hcl : cl < 256) (hnum : num < 18446744073709551616) :
    Calls Try.prog 3 #[.slice A n c, .int .u8 cl, .int .u64 num] w (BoolPost w true) := by
  cases hfew : fewT L
  · exact plays_few w A c n L cl num hL HN hn HO hfew
  · have hf1 := fun W hx => few15_calls W A c n L hx HN hn HO.out
    have e1 := hfew
    have HS : Hid (∀ a ∈ L, a.small = true) := (fewT_iff e1).1
    rw [e1] at hf1
    clear e1 hfew
    go_enter Try.func3, Try.ntmps3
    go_wp2_with fail
    refine (lives15_calls w).mono ?_
    rintro e w1 ⟨rfl, f1⟩
    go_wp2_with fail
    refine (hf1 w1 (hL.fr0 f1)).mono ?_
    rintro e w2 ⟨rfl, f2⟩
    have F2 := f1.then' f2
    clear f1 f2 hf1
    go_wp2_with fail
    refine (newTA_calls w2).mono ?_
    rintro e w3 ⟨rfl, ht3, f3⟩
    have F3 := F2.then' f3
    have hp1 : w.heap.size ≤ w2.heap.size := F2.size
    have hlt3 := ht3.lt
    have hz : BlkAt (w3.alloc (.cells #[.int .u64 0, .int .i64 0, .slice none 0 0, .int .u64 0, .int .i64 0, .slice none 0 0, .int .u64 0, .int .i64 0, .slice none 0 0, .int .u64 0, .int .i64 0, .slice none 0 0, .int .u64 0, .int .i64 0, .slice none 0 0, .int .u64 0, .int .i64 0, .slice none 0 0, .int .u64 0, .int .i64 0, .slice none 0 0, .int .u64 0, .int .i64 0, .slice none 0 0] 34)) w3.heap.size 34 (zeroR8.flatMap TRow.C).toArray := BlkAt.new _ _ _
    have f4 : Fr noB w3 (w3.alloc (.cells #[.int .u64 0, .int .i64 0, .slice none 0 0, .int .u64 0, .int .i64 0, .slice none 0 0, .int .u64 0, .int .i64 0, .slice none 0 0, .int .u64 0, .int .i64 0, .slice none 0 0, .int .u64 0, .int .i64 0, .slice none 0 0, .int .u64 0, .int .i64 0, .slice none 0 0, .int .u64 0, .int .i64 0, .slice none 0 0, .int .u64 0, .int .i64 0, .slice none 0 0] 34)) := (Fr.refl noB w3).alloc _
    have hs4 := al_size w3 (.cells #[.int .u64 0, .int .i64 0, .slice none 0 0, .int .u64 0, .int .i64 0, .slice none 0 0, .int .u64 0, .int .i64 0, .slice none 0 0, .int .u64 0, .int .i64 0, .slice none 0 0, .int .u64 0, .int .i64 0, .slice none 0 0, .int .u64 0, .int .i64 0, .slice none 0 0, .int .u64 0, .int .i64 0, .slice none 0 0, .int .u64 0, .int .i64 0, .slice none 0 0] 34)
    have hI : PlI w (w3.alloc (.cells #[.int .u64 0, .int .i64 0, .slice none 0 0, .int .u64 0, .int .i64 0, .slice none 0 0, .int .u64 0, .int .i64 0, .slice none 0 0, .int .u64 0, .int .i64 0, .slice none 0 0, .int .u64 0, .int .i64 0, .slice none 0 0, .int .u64 0, .int .i64 0, .slice none 0 0, .int .u64 0, .int .i64 0, .slice none 0 0, .int .u64 0, .int .i64 0, .slice none 0 0] 34)) w2.heap.size w3.heap.size zeroR8 := by
      refine ⟨?_, hz, zeroR8_tab w, hp1, F3.then' f4, by omega⟩
      exact (ht3.mono (V := PlU w.heap.size w3.heap.size) (fun k hk h => ⟨by unfold upB at h; omega, by omega⟩)).fr0 f4
    have hb8ge : w.heap.size ≤ w3.heap.size := F3.size
    clear ht3 hz F3 f3
    go_upto_region 5 with fail
    generalize (w3.alloc (.cells #[.int .u64 0, .int .i64 0, .slice none 0 0, .int .u64 0, .int .i64 0, .slice none 0 0, .int .u64 0, .int .i64 0, .slice none 0 0, .int .u64 0, .int .i64 0, .slice none 0 0, .int .u64 0, .int .i64 0, .slice none 0 0, .int .u64 0, .int .i64 0, .slice none 0 0, .int .u64 0, .int .i64 0, .slice none 0 0, .int .u64 0, .int .i64 0, .slice none 0 0] 34)) = w4 at *
    obtain ⟨b8, hb8⟩ : ∃ b8, w3.heap.size = b8 := ⟨_, rfl⟩
    rw [hb8] at hI hs4 hlt3 hb8ge ⊢
    obtain ⟨p1, hp1'⟩ : ∃ p1, w2.heap.size = p1 := ⟨_, rfl⟩
    rw [hp1'] at hI hlt3 hp1 ⊢
    clear f4 hb8 F2 hlt3 hp1 hp1'
    go_wp2_with fail
    go_loopw [7, 27] (fun tv i wr => ∃ (k p : Nat) (R : List TRow), k ≤ n ∧ i = .int .i64 k ∧ tv = .pointer (some ⟨p, 0, none⟩) ∧ PlI w wr p b8 R) (fun _ i _ => n - (intOf i).toNat)
    case atStart => exact ⟨0, p1, zeroR8, Nat.zero_le _, rfl, rfl, hI⟩
    case round =>
      clear hI hs4
      obtain ⟨k, p, R, hk, rfl, rfl, hI⟩ := hrel
      obtain ⟨hT, hB, hR, hp, hf, hpb⟩ := hI
      by_cases hkn : k < n
      · obtain ⟨u, hit⟩ : ∃ u, L[k]? = some u := ⟨_, List.getElem?_eq_getElem (by rw [HN.out]; exact hkn)⟩
        obtain ⟨ad, rfl⟩ := hL.row.some_flat (by simp [ActT.C]) hit
        obtain ⟨c0, c1, c2, c3, c4⟩ := ((hL.row.seg 5 (fun _ => rfl) hit).fr hf id).c5
        have huk := HO.out u (List.mem_of_getElem? hit)
        have husub := hL.sub u (List.mem_of_getElem? hit)
        obtain ⟨hsm1, hsm2⟩ := small_iff (HS.out u (List.mem_of_getElem? hit))
        have hput := fun W U q t => act_put (W := W) (U := U) (p := q) (t := t) hL HO.out HS.out hit
        have hrep := fun W => reply15_calls W u
        have hz5 := BlkAt.new wr #[.int .u8 0, .int .u8 0, .int .u64 0, .int .u8 0, .slice none 0 0] 36
        have f5 : Fr noB wr (wr.alloc (.cells #[.int .u8 0, .int .u8 0, .int .u64 0, .int .u8 0, .slice none 0 0] 36)) := (Fr.refl noB wr).alloc _
        have hltp := hT.lt
        have hltb := hB.lt
        have HIT := hid hit
        clear hit
        go_upto_region 8 with (refine wpList_store_blk rfl rfl hz5 0 (vs := [.int .u8 u.k, .int .u8 u.cl, .int .u64 u.num, .int .u8 u.e, .slice u.A u.n u.c]) rfl rfl (by kernel_rfl) (by kernel_rfl) (by simp) rfl ?_; intro w6 f6 hb6)
        have hT6 : TblA w6 (PlU w.heap.size b8) p (R.map TRow.abs) := by
          have := (hT.mono (V := fun k => PlU w.heap.size b8 k ∧ k < wr.heap.size) (fun k hk h => ⟨h, hk⟩)).fr0 f5
          exact (this.fr f6 (fun k _ h h2 => by unfold eqB at h2; omega)).mono (fun k _ h => h.1)
        have hB6 := (hB.fr f5 id).fr f6 (by unfold eqB; omega)
        have F6 : Fr noB w w6 := (hf.then' f5).trans f6 (fun i hi h => by unfold eqB at h; have := hf.size; omega)
        have hs6 := hb6.lt
        obtain ⟨p5, hp5⟩ : ∃ p5, wr.heap.size = p5 := ⟨_, rfl⟩
        rw [hp5] at hb6 hs6 hltp hltb ⊢
        clear hT hB hf hz5 f5 f6 c0 c1 c2 c3 c4 hp5
        obtain ⟨x0, x1, x2, x3, x4, xf⟩ := BlkAt.c5 hb6
        obtain ⟨m, hm⟩ : ∃ m : Nat, (u.k : Int) % 3 = m ∧ m < 3 := ⟨u.k % 3, by omega, by omega⟩
        obtain ⟨hm, hm3⟩ := hm
        rcases (by omega : m = 0 ∨ m = 1 ∨ m = 2) with rfl | rfl | rfl
        · have hpr := fun W (f : Fr noB w W) => putRR_calls hR f u.cl u.num (u.e % 19) u.A u.n u.c u.l (by omega) huk.len hsm1 hsm2 husub huk.nil
          have hszR := tabR_size hR.len
          have hcsR := hR
          obtain ⟨e19, he19⟩ : ∃ e19 : Nat, u.e % 19 = e19 := ⟨_, rfl⟩
          have h19 : (u.e : Int) % 19 = (e19 : Int) := by rw [← he19]; simp
          rw [he19] at hput hrep hpr
          clear hcsR he19
          go_upto_region 14 with fail
          go_wp2_with (refine wpList_load_blk rfl rfl hB6 0 rfl (cs := R.flatMap TRow.C) (by rw [List.drop_zero, List.take_length]) Try.underlying34 rfl hszR ?_)
          refine (hpr w6 F6).mono ?_
          rintro ed w7 ⟨R', rfl, hR', hab', f7⟩
          have hszR' := tabR_size hR'.len
          have hone' := flatC_one R'
          have hlen' : (R'.flatMap TRow.C).length = 24 := by rw [flatC_len, hR'.len]
          have hlenR : (R.flatMap TRow.C).length = 24 := by rw [flatC_len, hR.len]
          have hz11 : BlkAt (w7.alloc (.cells #[.int .u64 0, .int .i64 0, .slice none 0 0, .int .u64 0, .int .i64 0, .slice none 0 0, .int .u64 0, .int .i64 0, .slice none 0 0, .int .u64 0, .int .i64 0, .slice none 0 0, .int .u64 0, .int .i64 0, .slice none 0 0, .int .u64 0, .int .i64 0, .slice none 0 0, .int .u64 0, .int .i64 0, .slice none 0 0, .int .u64 0, .int .i64 0, .slice none 0 0] 34)) w7.heap.size 34 Z24.toArray := BlkAt.new _ _ _
          have f8 : Fr noB w7 (w7.alloc (.cells #[.int .u64 0, .int .i64 0, .slice none 0 0, .int .u64 0, .int .i64 0, .slice none 0 0, .int .u64 0, .int .i64 0, .slice none 0 0, .int .u64 0, .int .i64 0, .slice none 0 0, .int .u64 0, .int .i64 0, .slice none 0 0, .int .u64 0, .int .i64 0, .slice none 0 0, .int .u64 0, .int .i64 0, .slice none 0 0, .int .u64 0, .int .i64 0, .slice none 0 0] 34)) := (Fr.refl noB w7).alloc _
          have hD : Z24.take 0 ++ (R'.flatMap TRow.C) ++ Z24.drop (0 + (R'.flatMap TRow.C).length) = R'.flatMap TRow.C := by rw [hlen']; simp [Z24]
          have hzl : Z24.length = 24 := rfl
          have hs7 := f7.size
          have hT7 := hT6.fr0 f7
          have hT8 := (hT7.mono (V := fun k => PlU w.heap.size b8 k ∧ k < w7.heap.size) (fun k hk h => ⟨h, hk⟩)).fr0 f8
          have hB8 := (hB6.fr f7 id).fr f8 id
          have hb8' := (hb6.fr f7 id).fr f8 id
          have F8 := (F6.then' f7).then' f8
          have hs8 := F6.size
          have hsm := fun W U q h hA => same15_calls W U q R' h hA
          have hju := fun W => judgeR_calls W R' hR'.len u.cl u.num
          have hja := fun W U q h => judgeA_calls W U q (R'.map TRow.abs) u.cl u.num h
          obtain ⟨jv, hjv, _⟩ := judgeV_nat R' u.cl u.num
          rw [judge_same, hjv] at hja
          rw [hjv] at hju
          clear hjv
          generalize hcs' : R'.flatMap TRow.C = cs' at *
          have HCS := hid hcs'
          clear hcs'
          clear x0 x1 x2 x3 x4 xf hT6 hB6 hb6 F6 f7 f8 hT7 hpr
          go_upto_region 15 with (refine wpList_store_blk rfl rfl hz11 0 rfl rfl hszR' hone' (by omega) hD ?_; intro w9 f9 hb9)
          have hq7 : b8 < w7.heap.size := by omega
          have hT9 := (hT8.fr f9 (fun k _ h h2 => by unfold eqB at h2; omega)).mono (V := PlU w.heap.size b8) (fun k _ h => h.1)
          have hB9 := hB8.fr f9 (by unfold eqB; omega)
          have hb9' := hb8'.fr f9 (by unfold eqB; omega)
          have F9 : Fr noB w w9 := F8.trans f9 (fun i hi h => by unfold eqB at h; omega)
          have hD2 : (R.flatMap TRow.C).take 0 ++ cs' ++ (R.flatMap TRow.C).drop (0 + cs'.length) = cs' := by
            rw [hlen', List.take_zero, List.drop_of_length_le (by omega)]; simp
          clear hT8 hB8 hb8' F8 hz11 f9
          go_upto_region 16 with (first | (refine wpList_load_blk rfl rfl hb9 0 rfl (cs := cs') (by rw [List.drop_zero, List.take_length]) Try.underlying34 rfl hszR' ?_) | (refine wpList_store_blk rfl rfl hB9 0 rfl rfl hszR' hone' (by omega) hD2 ?_; intro w10 f10 hB10))
          have hT10 := hT9.fr f10 (fun k _ h h2 => h.2 h2)
          have hb10 := hb9'.fr f10 (by unfold eqB; omega)
          have F10 : Fr noB w w10 := F9.trans f10 (fun i hi h => by unfold eqB at h; omega)
          clear hT9 hB9 hb9' F9 f10 hb9
          have hput10 := fun W F h1 h2 => hput W (PlU w.heap.size b8) p (R.map TRow.abs) hp F h1 h2
          have hs10 : b8 < w10.heap.size ∧ p5 < w10.heap.size ∧ p < w10.heap.size := ⟨hB10.lt, hb10.lt, hT10.lt⟩
          clear hput
          generalize putA (R.map TRow.abs) u.cl u.num e19 u.l = pa at *
          obtain ⟨t', er⟩ := pa
          simp only [] at hput10 hab'
          subst hab'
          apply wp_region_calm (R := Fr (eqB p)) (C := fun q' W => Fr (eqB p) w10 W ∧ BlkAt W p5 36 #[.int .u8 u.k, .int .u8 u.cl, .int .u64 u.num, .int .u8 u.e, .slice u.A u.n u.c] ∧ PutTC (PlU w.heap.size b8) p (R.map TRow.abs) (R'.map TRow.abs) q' W) [false, false, false, false, false, false, false, true, false, false]
            [eqv _, eqv _, eqv _, eqv _, eqv _, eqv _, eqv _, eqv _, eqv _, eqv _]
            (by kernel_rfl) (by kernel_rfl) (fun _ _ _ h1 h2 => h1.then' h2) ((Fr.refl _ _).drew) ⟨(Fr.refl _ _).drew, hb10, hT10.fr0 ((Fr.refl noB _).drew)⟩ (by kernel_rfl)
          · refine ⟨?_, ?_, ?_, ?_, ?_, ?_, ?_, ?_, ?_, ?_, trivial⟩
            · rw [if_neg (by decide)]; intro kq
              exact calm_mv 7 rfl rfl (Or.inl rfl) (Fr.refl _) (by decide) fun v w hd => hd
            · rw [if_neg (by decide)]; intro kq
              intro a W K hC hd hK
              have d10 : a.tmps[10]?.getD undef = .pointer (some ⟨p5, 0, none⟩) := hd 10 (by decide)
              refine wpOp_plain rfl rfl ?_
              obtain ⟨x0, x1, x2, x3, x4, xf⟩ := BlkAt.c5 hC.2.1
              go_wp2_with fail
              exact hK _ _ (Fr.refl _ _) hC rfl
            · rw [if_neg (by decide)]; intro kq
              intro a W K hC hd hK
              have d67 : _ = _ := hd 67 (by decide)
              refine wpOp_plain rfl rfl ?_
              obtain ⟨x0, x1, x2, x3, x4, xf⟩ := BlkAt.c5 hC.2.1
              go_wp2_with fail
              exact hK _ _ (Fr.refl _ _) hC rfl
            · rw [if_neg (by decide)]; intro kq
              intro a W K hC hd hK
              have d10 : a.tmps[10]?.getD undef = .pointer (some ⟨p5, 0, none⟩) := hd 10 (by decide)
              refine wpOp_plain rfl rfl ?_
              obtain ⟨x0, x1, x2, x3, x4, xf⟩ := BlkAt.c5 hC.2.1
              go_wp2_with fail
              exact hK _ _ (Fr.refl _ _) hC rfl
            · rw [if_neg (by decide)]; intro kq
              intro a W K hC hd hK
              have d69 : _ = _ := hd 69 (by decide)
              refine wpOp_plain rfl rfl ?_
              obtain ⟨x0, x1, x2, x3, x4, xf⟩ := BlkAt.c5 hC.2.1
              go_wp2_with fail
              exact hK _ _ (Fr.refl _ _) hC rfl
            · rw [if_neg (by decide)]; intro kq
              intro a W K hC hd hK
              have d10 : a.tmps[10]?.getD undef = .pointer (some ⟨p5, 0, none⟩) := hd 10 (by decide)
              refine wpOp_plain rfl rfl ?_
              obtain ⟨x0, x1, x2, x3, x4, xf⟩ := BlkAt.c5 hC.2.1
              go_wp2_with fail
              exact hK _ _ (Fr.refl _ _) hC rfl
            · rw [if_neg (by decide)]; intro kq
              intro a W K hC hd hK
              have d71 : _ = _ := hd 71 (by decide)
              refine wpOp_plain rfl rfl ?_
              obtain ⟨x0, x1, x2, x3, x4, xf⟩ := BlkAt.c5 hC.2.1
              go_wp2_with fail
              refine (hrep W).mono ?_
              rintro e9 w9 ⟨rfl, f9⟩
              exact hK _ _ (f9.mono fun _ _ h => h.elim) ⟨hC.1.then' (f9.mono fun _ _ h => h.elim), hC.2.1.fr f9 id, hC.2.2.fr0 f9⟩ rfl
            · rw [if_pos (by decide)]
              intro a W K hC hd hK
              replace hC : (fun q' W => Fr (eqB p) w10 W ∧ BlkAt W p5 36 #[.int .u8 u.k, .int .u8 u.cl, .int .u64 u.num, .int .u8 u.e, .slice u.A u.n u.c] ∧ PutTC (PlU w.heap.size b8) p (R.map TRow.abs) (R'.map TRow.abs) q' W) 0 W := hC
              have d66 : _ = _ := hd 66 (by decide)
              have d68 : _ = _ := hd 68 (by decide)
              have d70 : _ = _ := hd 70 (by decide)
              have d72 : _ = _ := hd 72 (by decide)
              refine wpOp_plain rfl rfl ?_
              obtain ⟨x0, x1, x2, x3, x4, xf⟩ := BlkAt.c5 hC.2.1
              go_wp2_with fail
              refine (hput10 W (F10.trans hC.1 (fun i hi h => by unfold eqB at h; omega)) (fun j hj => by have := hC.1.size; have := F10.size; exact ⟨by omega, by omega⟩) hC.2.2).mono ?_
              rintro e9 w9 ⟨rfl, h9, f9⟩
              exact hK _ _ f9 ⟨hC.1.then' f9, hC.2.1.fr f9 (by unfold eqB; omega), h9⟩ rfl
            · rw [if_neg (by decide)]; intro kq
              exact calm_mv 12 rfl rfl (Or.inl rfl) (Fr.refl _) (by decide) fun v w hd => hd
            · rw [if_neg (by decide)]; intro kq
              intro a W K hC hd hK
              have d73 : _ = _ := hd 73 (by decide)
              have d74 : _ = _ := hd 74 (by decide)
              refine wpOp_plain rfl rfl ?_
              go_wp2_with fail
              exact hK _ _ (Fr.refl _ _) hC rfl
          · intro vs w11 fw11 cw11 hV
            have v66 : vs 0 = _ := hV 0 _ _ rfl rfl (by decide)
            have v67 : vs 1 = _ := hV 1 _ _ rfl rfl (by decide)
            have v68 : vs 2 = _ := hV 2 _ _ rfl rfl (by decide)
            have v69 : vs 3 = _ := hV 3 _ _ rfl rfl (by decide)
            have v70 : vs 4 = _ := hV 4 _ _ rfl rfl (by decide)
            have v71 : vs 5 = _ := hV 5 _ _ rfl rfl (by decide)
            have v72 : vs 6 = _ := hV 6 _ _ rfl rfl (by decide)
            have v73 : vs 7 = _ := hV 7 _ _ rfl rfl (by decide)
            have v74 : vs 8 = _ := hV 8 _ _ rfl rfl (by decide)
            have v75 : vs 9 = _ := hV 9 _ _ rfl rfl (by decide)
            clear hV
            simp only [putL, Act.put, Nat.reduceAdd, List.setIfInBounds_toArray, List.set_cons_zero, List.set_cons_succ, v66, v67, v68, v69, v70, v71, v72, v73, v74, v75]
            have hT11 : TblA w11 (PlU w.heap.size b8) p (R'.map TRow.abs) := cw11.2.2
            have hb11 := cw11.2.1
            have hB11 := hB10.fr fw11 (by unfold eqB; omega)
            have F11 := F10.trans fw11 (fun i hi h => by unfold eqB at h; omega)
            clear cw11 fw11 hT10 hb10 hB10 F10 hput10 hR
            go_wp2_with fail
            apply wp_region_calm (R := Fr noB) (C := fun q' W => Fr noB w11 W) [false, false, false, false, false, false, false, false, false, false, false, false, false, false, false, false, false, false, false]
              [eqv _, eqv (.agg cs'.toArray), eqv (.bool true), eqv _, eqv _, eqv _, eqv _, eqv _, eqv _, eqv _, eqv (.int .i64 jv), eqv (.agg cs'.toArray), eqv _, eqv _, eqv _, eqv _, eqv (.int .i64 jv), eqv _, eqv _]
              (by kernel_rfl) (by kernel_rfl) (fun _ _ _ h1 h2 => h1.then' h2) ((Fr.refl _ _).drew) ((Fr.refl _ _).drew) (by kernel_rfl)
            · refine ⟨?_, ?_, ?_, ?_, ?_, ?_, ?_, ?_, ?_, ?_, ?_, ?_, ?_, ?_, ?_, ?_, ?_, ?_, ?_, trivial⟩
              · rw [if_neg (by decide)]; intro kq
                exact calm_mv 7 rfl rfl (Or.inl rfl) (Fr.refl _) (by decide) fun v w hd => hd
              · rw [if_neg (by decide)]; intro kq
                intro a W K hC hd hK
                have d8 : a.tmps[8]?.getD undef = .pointer (some ⟨b8, 0, none⟩) := hd 8 (by decide)
                refine wpOp_plain rfl rfl ?_
                obtain ⟨x0, x1, x2, x3, x4, xf⟩ := BlkAt.c5 (hb11.fr hC id)
                refine wp_load_blk (P := Try.prog) rfl (hB11.fr hC id) 0 (by rw [eval_get]; exact d8) (cs := cs') (by rw [List.drop_zero, List.take_length]) Try.underlying34 rfl hszR' ?_
                exact hK _ _ (Fr.refl _ _) hC rfl
              · rw [if_neg (by decide)]; intro kq
                intro a W K hC hd hK
                have d86 : _ = _ := hd 86 (by decide)
                have d87 : a.tmps[87]?.getD undef = .agg cs'.toArray := hd 87 (by decide)
                refine wpOp_plain rfl rfl ?_
                obtain ⟨x0, x1, x2, x3, x4, xf⟩ := BlkAt.c5 (hb11.fr hC id)
                go_wp2_with fail
                refine (hsm W _ _ (hT11.fr0 hC) (hR'.ra (F11.then' hC))).mono ?_
                rintro e9 w9 ⟨rfl, f9⟩
                exact hK _ _ f9 (hC.then' f9) rfl
              · rw [if_neg (by decide)]; intro kq
                intro a W K hC hd hK
                have d88 : a.tmps[88]?.getD undef = .bool true := hd 88 (by decide)
                refine wpOp_plain rfl rfl ?_
                go_wp2_with fail
                exact hK _ _ (Fr.refl _ _) hC rfl
              · rw [if_neg (by decide)]; intro kq
                exact calm_mv 89 rfl rfl (Or.inl rfl) (Fr.refl _) (by decide) fun v w hd => hd
              · rw [if_neg (by decide)]; intro kq
                intro a W K hC hd hK
                have d7 : a.tmps[7]?.getD undef = .pointer (some ⟨p, 0, none⟩) := hd 7 (by decide)
                have d90 : _ = _ := hd 90 (by decide)
                first | (exact wpOp_skip rfl (wanted_of (want := false) (b := true) rfl rfl (by rw [eval_get]; exact d90)) (hK _ _ (Fr.refl _ _) hC rfl)) | (refine wpOp_want rfl (wanted_of (want := false) (b := false) rfl rfl (by rw [eval_get]; exact d90)) ?_)
                all_goals (
                  go_wp2_with fail
                  exact hK _ _ (Fr.refl _ _) hC rfl)
              · rw [if_neg (by decide)]; intro kq
                intro a W K hC hd hK
                have d10 : a.tmps[10]?.getD undef = .pointer (some ⟨p5, 0, none⟩) := hd 10 (by decide)
                have d90 : _ = _ := hd 90 (by decide)
                first | (exact wpOp_skip rfl (wanted_of (want := false) (b := true) rfl rfl (by rw [eval_get]; exact d90)) (hK _ _ (Fr.refl _ _) hC rfl)) | (refine wpOp_want rfl (wanted_of (want := false) (b := false) rfl rfl (by rw [eval_get]; exact d90)) ?_)
                all_goals (
                  obtain ⟨x0, x1, x2, x3, x4, xf⟩ := BlkAt.c5 (hb11.fr hC id)
                  go_wp2_with fail
                  exact hK _ _ (Fr.refl _ _) hC rfl)
              · rw [if_neg (by decide)]; intro kq
                intro a W K hC hd hK
                have d92 : _ = _ := hd 92 (by decide)
                have d90 : _ = _ := hd 90 (by decide)
                first | (exact wpOp_skip rfl (wanted_of (want := false) (b := true) rfl rfl (by rw [eval_get]; exact d90)) (hK _ _ (Fr.refl _ _) hC rfl)) | (refine wpOp_want rfl (wanted_of (want := false) (b := false) rfl rfl (by rw [eval_get]; exact d90)) ?_)
                all_goals (
                  obtain ⟨x0, x1, x2, x3, x4, xf⟩ := BlkAt.c5 (hb11.fr hC id)
                  go_wp2_with fail
                  exact hK _ _ (Fr.refl _ _) hC rfl)
              · rw [if_neg (by decide)]; intro kq
                intro a W K hC hd hK
                have d10 : a.tmps[10]?.getD undef = .pointer (some ⟨p5, 0, none⟩) := hd 10 (by decide)
                have d90 : _ = _ := hd 90 (by decide)
                first | (exact wpOp_skip rfl (wanted_of (want := false) (b := true) rfl rfl (by rw [eval_get]; exact d90)) (hK _ _ (Fr.refl _ _) hC rfl)) | (refine wpOp_want rfl (wanted_of (want := false) (b := false) rfl rfl (by rw [eval_get]; exact d90)) ?_)
                all_goals (
                  obtain ⟨x0, x1, x2, x3, x4, xf⟩ := BlkAt.c5 (hb11.fr hC id)
                  go_wp2_with fail
                  exact hK _ _ (Fr.refl _ _) hC rfl)
              · rw [if_neg (by decide)]; intro kq
                intro a W K hC hd hK
                have d94 : _ = _ := hd 94 (by decide)
                have d90 : _ = _ := hd 90 (by decide)
                first | (exact wpOp_skip rfl (wanted_of (want := false) (b := true) rfl rfl (by rw [eval_get]; exact d90)) (hK _ _ (Fr.refl _ _) hC rfl)) | (refine wpOp_want rfl (wanted_of (want := false) (b := false) rfl rfl (by rw [eval_get]; exact d90)) ?_)
                all_goals (
                  obtain ⟨x0, x1, x2, x3, x4, xf⟩ := BlkAt.c5 (hb11.fr hC id)
                  go_wp2_with fail
                  exact hK _ _ (Fr.refl _ _) hC rfl)
              · rw [if_neg (by decide)]; intro kq
                intro a W K hC hd hK
                have d91 : _ = _ := hd 91 (by decide)
                have d93 : _ = _ := hd 93 (by decide)
                have d95 : _ = _ := hd 95 (by decide)
                have d90 : _ = _ := hd 90 (by decide)
                first | (exact wpOp_skip rfl (wanted_of (want := false) (b := true) rfl rfl (by rw [eval_get]; exact d90)) (hK _ _ (Fr.refl _ _) hC rfl)) | (refine wpOp_want rfl (wanted_of (want := false) (b := false) rfl rfl (by rw [eval_get]; exact d90)) ?_)
                all_goals (
                  obtain ⟨x0, x1, x2, x3, x4, xf⟩ := BlkAt.c5 (hb11.fr hC id)
                  go_wp2_with fail
                  refine (hja W _ _ (hT11.fr0 hC)).mono ?_
                  rintro e9 w9 ⟨rfl, rfl⟩
                  exact hK _ _ (Fr.refl _ _) hC rfl)
              · rw [if_neg (by decide)]; intro kq
                intro a W K hC hd hK
                have d8 : a.tmps[8]?.getD undef = .pointer (some ⟨b8, 0, none⟩) := hd 8 (by decide)
                have d90 : _ = _ := hd 90 (by decide)
                first | (exact wpOp_skip rfl (wanted_of (want := false) (b := true) rfl rfl (by rw [eval_get]; exact d90)) (hK _ _ (Fr.refl _ _) hC rfl)) | (refine wpOp_want rfl (wanted_of (want := false) (b := false) rfl rfl (by rw [eval_get]; exact d90)) ?_)
                all_goals (
                  obtain ⟨x0, x1, x2, x3, x4, xf⟩ := BlkAt.c5 (hb11.fr hC id)
                  refine wp_load_blk (P := Try.prog) rfl (hB11.fr hC id) 0 (by rw [eval_get]; exact d8) (cs := cs') (by rw [List.drop_zero, List.take_length]) Try.underlying34 rfl hszR' ?_
                  exact hK _ _ (Fr.refl _ _) hC rfl)
              · rw [if_neg (by decide)]; intro kq
                intro a W K hC hd hK
                have d10 : a.tmps[10]?.getD undef = .pointer (some ⟨p5, 0, none⟩) := hd 10 (by decide)
                have d90 : _ = _ := hd 90 (by decide)
                first | (exact wpOp_skip rfl (wanted_of (want := false) (b := true) rfl rfl (by rw [eval_get]; exact d90)) (hK _ _ (Fr.refl _ _) hC rfl)) | (refine wpOp_want rfl (wanted_of (want := false) (b := false) rfl rfl (by rw [eval_get]; exact d90)) ?_)
                all_goals (
                  obtain ⟨x0, x1, x2, x3, x4, xf⟩ := BlkAt.c5 (hb11.fr hC id)
                  go_wp2_with fail
                  exact hK _ _ (Fr.refl _ _) hC rfl)
              · rw [if_neg (by decide)]; intro kq
                intro a W K hC hd hK
                have d98 : _ = _ := hd 98 (by decide)
                have d90 : _ = _ := hd 90 (by decide)
                first | (exact wpOp_skip rfl (wanted_of (want := false) (b := true) rfl rfl (by rw [eval_get]; exact d90)) (hK _ _ (Fr.refl _ _) hC rfl)) | (refine wpOp_want rfl (wanted_of (want := false) (b := false) rfl rfl (by rw [eval_get]; exact d90)) ?_)
                all_goals (
                  obtain ⟨x0, x1, x2, x3, x4, xf⟩ := BlkAt.c5 (hb11.fr hC id)
                  go_wp2_with fail
                  exact hK _ _ (Fr.refl _ _) hC rfl)
              · rw [if_neg (by decide)]; intro kq
                intro a W K hC hd hK
                have d10 : a.tmps[10]?.getD undef = .pointer (some ⟨p5, 0, none⟩) := hd 10 (by decide)
                have d90 : _ = _ := hd 90 (by decide)
                first | (exact wpOp_skip rfl (wanted_of (want := false) (b := true) rfl rfl (by rw [eval_get]; exact d90)) (hK _ _ (Fr.refl _ _) hC rfl)) | (refine wpOp_want rfl (wanted_of (want := false) (b := false) rfl rfl (by rw [eval_get]; exact d90)) ?_)
                all_goals (
                  obtain ⟨x0, x1, x2, x3, x4, xf⟩ := BlkAt.c5 (hb11.fr hC id)
                  go_wp2_with fail
                  exact hK _ _ (Fr.refl _ _) hC rfl)
              · rw [if_neg (by decide)]; intro kq
                intro a W K hC hd hK
                have d100 : _ = _ := hd 100 (by decide)
                have d90 : _ = _ := hd 90 (by decide)
                first | (exact wpOp_skip rfl (wanted_of (want := false) (b := true) rfl rfl (by rw [eval_get]; exact d90)) (hK _ _ (Fr.refl _ _) hC rfl)) | (refine wpOp_want rfl (wanted_of (want := false) (b := false) rfl rfl (by rw [eval_get]; exact d90)) ?_)
                all_goals (
                  obtain ⟨x0, x1, x2, x3, x4, xf⟩ := BlkAt.c5 (hb11.fr hC id)
                  go_wp2_with fail
                  exact hK _ _ (Fr.refl _ _) hC rfl)
              · rw [if_neg (by decide)]; intro kq
                intro a W K hC hd hK
                have d97 : a.tmps[97]?.getD undef = .agg cs'.toArray := hd 97 (by decide)
                have d99 : _ = _ := hd 99 (by decide)
                have d101 : _ = _ := hd 101 (by decide)
                have d90 : _ = _ := hd 90 (by decide)
                first | (exact wpOp_skip rfl (wanted_of (want := false) (b := true) rfl rfl (by rw [eval_get]; exact d90)) (hK _ _ (Fr.refl _ _) hC rfl)) | (refine wpOp_want rfl (wanted_of (want := false) (b := false) rfl rfl (by rw [eval_get]; exact d90)) ?_)
                all_goals (
                  obtain ⟨x0, x1, x2, x3, x4, xf⟩ := BlkAt.c5 (hb11.fr hC id)
                  go_wp2_with fail
                  refine (hju W).mono ?_
                  rintro e9 w9 ⟨rfl, f9⟩
                  exact hK _ _ f9 (hC.then' f9) rfl)
              · rw [if_neg (by decide)]; intro kq
                intro a W K hC hd hK
                have d96 : a.tmps[96]?.getD undef = .int .i64 jv := hd 96 (by decide)
                have d102 : a.tmps[102]?.getD undef = .int .i64 jv := hd 102 (by decide)
                have d90 : _ = _ := hd 90 (by decide)
                first | (exact wpOp_skip rfl (wanted_of (want := false) (b := true) rfl rfl (by rw [eval_get]; exact d90)) (hK _ _ (Fr.refl _ _) hC rfl)) | (refine wpOp_want rfl (wanted_of (want := false) (b := false) rfl rfl (by rw [eval_get]; exact d90)) ?_)
                all_goals (
                  go_wp2_with fail
                  exact hK _ _ (Fr.refl _ _) hC rfl)
              · rw [if_neg (by decide)]; intro kq
                intro a W K hC hd hK
                have d90 : _ = _ := hd 90 (by decide)
                have d103 : _ = _ := hd 103 (by decide)
                refine wpOp_plain rfl rfl ?_
                go_wp2_with fail
                exact hK _ _ (Fr.refl _ _) hC rfl
            · intro vs w19 fw19 cw19 hV
              have v86 : vs 0 = _ := hV 0 _ _ rfl rfl (by decide)
              have v87 : vs 1 = .agg cs'.toArray := hV 1 _ _ rfl rfl (by decide)
              have v88 : vs 2 = .bool true := hV 2 _ _ rfl rfl (by decide)
              have v89 : vs 3 = _ := hV 3 _ _ rfl rfl (by decide)
              have v90 : vs 4 = _ := hV 4 _ _ rfl rfl (by decide)
              have v91 : vs 5 = _ := hV 5 _ _ rfl rfl (by decide)
              have v92 : vs 6 = _ := hV 6 _ _ rfl rfl (by decide)
              have v93 : vs 7 = _ := hV 7 _ _ rfl rfl (by decide)
              have v94 : vs 8 = _ := hV 8 _ _ rfl rfl (by decide)
              have v95 : vs 9 = _ := hV 9 _ _ rfl rfl (by decide)
              have v96 : vs 10 = .int .i64 jv := hV 10 _ _ rfl rfl (by decide)
              have v97 : vs 11 = .agg cs'.toArray := hV 11 _ _ rfl rfl (by decide)
              have v98 : vs 12 = _ := hV 12 _ _ rfl rfl (by decide)
              have v99 : vs 13 = _ := hV 13 _ _ rfl rfl (by decide)
              have v100 : vs 14 = _ := hV 14 _ _ rfl rfl (by decide)
              have v101 : vs 15 = _ := hV 15 _ _ rfl rfl (by decide)
              have v102 : vs 16 = .int .i64 jv := hV 16 _ _ rfl rfl (by decide)
              have v103 : vs 17 = _ := hV 17 _ _ rfl rfl (by decide)
              have v104 : vs 18 = _ := hV 18 _ _ rfl rfl (by decide)
              clear hV
              simp only [putL, Act.put, Nat.reduceAdd, List.setIfInBounds_toArray, List.set_cons_zero, List.set_cons_succ, v86, v87, v88, v89, v90, v91, v92, v93, v94, v95, v96, v97, v98, v99, v100, v101, v102, v103, v104]
              have hT19 := hT11.fr0 fw19
              have hB19 := hB11.fr fw19 id
              have F19 := F11.then' fw19
              clear fw19 cw19 hsm hja hju
              go_wp2_with fail
              go_roundw
              case rel => exact ⟨k + 1, p, R', by omega, by go_num, rfl, hT19, by rw [HCS.out]; exact hB19, hR', hp, F19, hpb⟩
              case measure => simp [intOf]; omega
        · obtain ⟨e19, he19⟩ : ∃ e19 : Nat, u.e % 19 = e19 := ⟨_, rfl⟩
          have he19l : e19 < 19 := by omega
          have hsum := sumSz_few u.l 50 hsm2
          rw [huk.len] at hsum
          have hputc := fun W U q t (hT : TblA W U q t) hU (F : Fr noB w W) (hq : w.heap.size ≤ q) => putT_calls W U q t u.cl 1099511627776 e19 u.A u.n u.c u.l hT hU (husub.fr0 F) huk.len huk.nil (by omega) (by omega) (by omega) (by decide) (fun ad e h0 hp' => by
            have hr := husub
            rw [e] at hr
            have := hr.lt (by simp only [strs, List.length_map]; rw [huk.len]; exact h0)
            omega)
          rw [he19] at hrep
          have hcp := copyT_calls w6 _ p _ hT6
          have hsm := fun W U q h hA => same15_calls W U q R h hA
          have hju := fun W => judgeR_calls W R hR.len u.cl u.num
          have hja := fun W U q h => judgeA_calls W U q (R.map TRow.abs) u.cl u.num h
          obtain ⟨jv, hjv, _⟩ := judgeV_nat R u.cl u.num
          rw [judge_same, hjv] at hja
          rw [hjv] at hju
          have hszR := tabR_size hR.len
          clear hjv hput he19 he19l hsum
          generalize hcs' : R.flatMap TRow.C = cs' at *
          have HCS := hid hcs'
          clear hcs'
          go_wp2_with fail
          refine hcp.mono ?_
          rintro ed w7 ⟨q, hq, rfl, hTq, f7⟩
          have hT7 := hT6.fr0 f7
          have hB7 := hB6.fr f7 id
          have hb7 := hb6.fr f7 id
          have F7 := F6.then' f7
          have hq6 := F6.size
          have hlq := hTq.lt
          have hs6' : b8 < w6.heap.size := hB6.lt
          have hTc : TblA w6 (fun k => PlU w.heap.size b8 k ∧ k < w6.heap.size) p (R.map TRow.abs) := hT6.mono (fun k hk h => ⟨h, hk⟩)
          have hTc7 := hTc.fr0 f7
          clear x0 x1 x2 x3 x4 xf hT6 hB6 hb6 F6 hcp hTc hT7 f7
          generalize hpa : putA (R.map TRow.abs) u.cl 1099511627776 e19 u.l = pa at *
          have hput7 := fun W (h : TblA W (upB w6.heap.size) q (R.map TRow.abs)) hU F => hputc W (upB w6.heap.size) q (R.map TRow.abs) h hU F (by omega)
          rw [hpa] at hput7
          obtain ⟨t', er⟩ := pa
          simp only [] at hput7
          clear hputc hpa
          go_wp2_with fail
          apply wp_region_calm (R := Fr (eqB q)) (C := fun q' W => Fr (eqB q) w7 W ∧ BlkAt W p5 36 #[.int .u8 u.k, .int .u8 u.cl, .int .u64 u.num, .int .u8 u.e, .slice u.A u.n u.c] ∧ PutTC (upB w6.heap.size) q (R.map TRow.abs) t' q' W) [false, false, false, false, false, true]
            [eqv _, eqv _, eqv _, eqv _, eqv _, eqv _]
            (by kernel_rfl) (by kernel_rfl) (fun _ _ _ h1 h2 => h1.then' h2) ((Fr.refl _ _).drew) ⟨(Fr.refl _ _).drew, hb7, hTq.fr0 ((Fr.refl noB _).drew)⟩ (by kernel_rfl)
          · refine ⟨?_, ?_, ?_, ?_, ?_, ?_, trivial⟩
            · rw [if_neg (by decide)]; intro kq
              exact calm_mv 13 rfl rfl (Or.inl rfl) (Fr.refl _) (by decide) fun v w hd => hd
            · rw [if_neg (by decide)]; intro kq
              intro a W K hC hd hK
              have d10 : a.tmps[10]?.getD undef = .pointer (some ⟨p5, 0, none⟩) := hd 10 (by decide)
              refine wpOp_plain rfl rfl ?_
              obtain ⟨x0, x1, x2, x3, x4, xf⟩ := BlkAt.c5 hC.2.1
              go_wp2_with fail
              exact hK _ _ (Fr.refl _ _) hC rfl
            · rw [if_neg (by decide)]; intro kq
              intro a W K hC hd hK
              have d81 : _ = _ := hd 81 (by decide)
              refine wpOp_plain rfl rfl ?_
              obtain ⟨x0, x1, x2, x3, x4, xf⟩ := BlkAt.c5 hC.2.1
              go_wp2_with fail
              exact hK _ _ (Fr.refl _ _) hC rfl
            · rw [if_neg (by decide)]; intro kq
              intro a W K hC hd hK
              have d10 : a.tmps[10]?.getD undef = .pointer (some ⟨p5, 0, none⟩) := hd 10 (by decide)
              refine wpOp_plain rfl rfl ?_
              obtain ⟨x0, x1, x2, x3, x4, xf⟩ := BlkAt.c5 hC.2.1
              go_wp2_with fail
              exact hK _ _ (Fr.refl _ _) hC rfl
            · rw [if_neg (by decide)]; intro kq
              intro a W K hC hd hK
              have d83 : _ = _ := hd 83 (by decide)
              refine wpOp_plain rfl rfl ?_
              obtain ⟨x0, x1, x2, x3, x4, xf⟩ := BlkAt.c5 hC.2.1
              go_wp2_with fail
              refine (hrep W).mono ?_
              rintro e9 w9 ⟨rfl, f9⟩
              exact hK _ _ (f9.mono fun _ _ h => h.elim) ⟨hC.1.then' (f9.mono fun _ _ h => h.elim), hC.2.1.fr f9 id, hC.2.2.fr0 f9⟩ rfl
            · rw [if_pos (by decide)]
              intro a W K hC hd hK
              replace hC : (fun q' W => Fr (eqB q) w7 W ∧ BlkAt W p5 36 #[.int .u8 u.k, .int .u8 u.cl, .int .u64 u.num, .int .u8 u.e, .slice u.A u.n u.c] ∧ PutTC (upB w6.heap.size) q (R.map TRow.abs) t' q' W) 0 W := hC
              have d80 : _ = _ := hd 80 (by decide)
              have d82 : _ = _ := hd 82 (by decide)
              have d84 : _ = _ := hd 84 (by decide)
              refine wpOp_plain rfl rfl ?_
              obtain ⟨x0, x1, x2, x3, x4, xf⟩ := BlkAt.c5 hC.2.1
              go_wp2_with fail
              refine (hput7 W hC.2.2 (fun j hj => by have := hC.1.size; unfold upB; omega) (F7.trans hC.1 (fun i hi h => by unfold eqB at h; omega))).mono ?_
              rintro e9 w9 ⟨rfl, h9, f9⟩
              exact hK _ _ f9 ⟨hC.1.then' f9, hC.2.1.fr f9 (by unfold eqB; omega), h9⟩ rfl
          · intro vs w11 fw11 cw11 hV
            have v80 : vs 0 = _ := hV 0 _ _ rfl rfl (by decide)
            have v81 : vs 1 = _ := hV 1 _ _ rfl rfl (by decide)
            have v82 : vs 2 = _ := hV 2 _ _ rfl rfl (by decide)
            have v83 : vs 3 = _ := hV 3 _ _ rfl rfl (by decide)
            have v84 : vs 4 = _ := hV 4 _ _ rfl rfl (by decide)
            have v85 : vs 5 = _ := hV 5 _ _ rfl rfl (by decide)
            clear hV
            simp only [putL, Act.put, Nat.reduceAdd, List.setIfInBounds_toArray, List.set_cons_zero, List.set_cons_succ, v80, v81, v82, v83, v84, v85]
            have hT11 : TblA w11 (PlU w.heap.size b8) p (R.map TRow.abs) := (hTc7.fr fw11 (fun k _ h h2 => by have := h.2; unfold eqB at h2; omega)).mono (fun k _ h => h.1)
            have hb11 := cw11.2.1
            have hB11 := hB7.fr fw11 (by unfold eqB; omega)
            have F11 := F7.trans fw11 (fun i hi h => by unfold eqB at h; omega)
            clear cw11 fw11 hTc7 hb7 hB7 F7 hput7 hTq
            go_wp2_with fail
            apply wp_region_calm (R := Fr noB) (C := fun q' W => Fr noB w11 W) [false, false, false, false, false, false, false, false, false, false, false, false, false, false, false, false, false, false, false]
              [eqv _, eqv (.agg cs'.toArray), eqv (.bool true), eqv _, eqv _, eqv _, eqv _, eqv _, eqv _, eqv _, eqv (.int .i64 jv), eqv (.agg cs'.toArray), eqv _, eqv _, eqv _, eqv _, eqv (.int .i64 jv), eqv _, eqv _]
              (by kernel_rfl) (by kernel_rfl) (fun _ _ _ h1 h2 => h1.then' h2) ((Fr.refl _ _).drew) ((Fr.refl _ _).drew) (by kernel_rfl)
            · refine ⟨?_, ?_, ?_, ?_, ?_, ?_, ?_, ?_, ?_, ?_, ?_, ?_, ?_, ?_, ?_, ?_, ?_, ?_, ?_, trivial⟩
              · rw [if_neg (by decide)]; intro kq
                exact calm_mv 7 rfl rfl (Or.inl rfl) (Fr.refl _) (by decide) fun v w hd => hd
              · rw [if_neg (by decide)]; intro kq
                intro a W K hC hd hK
                have d8 : a.tmps[8]?.getD undef = .pointer (some ⟨b8, 0, none⟩) := hd 8 (by decide)
                refine wpOp_plain rfl rfl ?_
                obtain ⟨x0, x1, x2, x3, x4, xf⟩ := BlkAt.c5 (hb11.fr hC id)
                refine wp_load_blk (P := Try.prog) rfl (hB11.fr hC id) 0 (by rw [eval_get]; exact d8) (cs := cs') (by rw [List.drop_zero, List.take_length]) Try.underlying34 rfl hszR ?_
                exact hK _ _ (Fr.refl _ _) hC rfl
              · rw [if_neg (by decide)]; intro kq
                intro a W K hC hd hK
                have d86 : _ = _ := hd 86 (by decide)
                have d87 : a.tmps[87]?.getD undef = .agg cs'.toArray := hd 87 (by decide)
                refine wpOp_plain rfl rfl ?_
                obtain ⟨x0, x1, x2, x3, x4, xf⟩ := BlkAt.c5 (hb11.fr hC id)
                go_wp2_with fail
                refine (hsm W _ _ (hT11.fr0 hC) (hR.ra (F11.then' hC))).mono ?_
                rintro e9 w9 ⟨rfl, f9⟩
                exact hK _ _ f9 (hC.then' f9) rfl
              · rw [if_neg (by decide)]; intro kq
                intro a W K hC hd hK
                have d88 : a.tmps[88]?.getD undef = .bool true := hd 88 (by decide)
                refine wpOp_plain rfl rfl ?_
                go_wp2_with fail
                exact hK _ _ (Fr.refl _ _) hC rfl
              · rw [if_neg (by decide)]; intro kq
                exact calm_mv 89 rfl rfl (Or.inl rfl) (Fr.refl _) (by decide) fun v w hd => hd
              · rw [if_neg (by decide)]; intro kq
                intro a W K hC hd hK
                have d7 : a.tmps[7]?.getD undef = .pointer (some ⟨p, 0, none⟩) := hd 7 (by decide)
                have d90 : _ = _ := hd 90 (by decide)
                first | (exact wpOp_skip rfl (wanted_of (want := false) (b := true) rfl rfl (by rw [eval_get]; exact d90)) (hK _ _ (Fr.refl _ _) hC rfl)) | (refine wpOp_want rfl (wanted_of (want := false) (b := false) rfl rfl (by rw [eval_get]; exact d90)) ?_)
                all_goals (
                  go_wp2_with fail
                  exact hK _ _ (Fr.refl _ _) hC rfl)
              · rw [if_neg (by decide)]; intro kq
                intro a W K hC hd hK
                have d10 : a.tmps[10]?.getD undef = .pointer (some ⟨p5, 0, none⟩) := hd 10 (by decide)
                have d90 : _ = _ := hd 90 (by decide)
                first | (exact wpOp_skip rfl (wanted_of (want := false) (b := true) rfl rfl (by rw [eval_get]; exact d90)) (hK _ _ (Fr.refl _ _) hC rfl)) | (refine wpOp_want rfl (wanted_of (want := false) (b := false) rfl rfl (by rw [eval_get]; exact d90)) ?_)
                all_goals (
                  obtain ⟨x0, x1, x2, x3, x4, xf⟩ := BlkAt.c5 (hb11.fr hC id)
                  go_wp2_with fail
                  exact hK _ _ (Fr.refl _ _) hC rfl)
              · rw [if_neg (by decide)]; intro kq
                intro a W K hC hd hK
                have d92 : _ = _ := hd 92 (by decide)
                have d90 : _ = _ := hd 90 (by decide)
                first | (exact wpOp_skip rfl (wanted_of (want := false) (b := true) rfl rfl (by rw [eval_get]; exact d90)) (hK _ _ (Fr.refl _ _) hC rfl)) | (refine wpOp_want rfl (wanted_of (want := false) (b := false) rfl rfl (by rw [eval_get]; exact d90)) ?_)
                all_goals (
                  obtain ⟨x0, x1, x2, x3, x4, xf⟩ := BlkAt.c5 (hb11.fr hC id)
                  go_wp2_with fail
                  exact hK _ _ (Fr.refl _ _) hC rfl)
              · rw [if_neg (by decide)]; intro kq
                intro a W K hC hd hK
                have d10 : a.tmps[10]?.getD undef = .pointer (some ⟨p5, 0, none⟩) := hd 10 (by decide)
                have d90 : _ = _ := hd 90 (by decide)
                first | (exact wpOp_skip rfl (wanted_of (want := false) (b := true) rfl rfl (by rw [eval_get]; exact d90)) (hK _ _ (Fr.refl _ _) hC rfl)) | (refine wpOp_want rfl (wanted_of (want := false) (b := false) rfl rfl (by rw [eval_get]; exact d90)) ?_)
                all_goals (
                  obtain ⟨x0, x1, x2, x3, x4, xf⟩ := BlkAt.c5 (hb11.fr hC id)
                  go_wp2_with fail
                  exact hK _ _ (Fr.refl _ _) hC rfl)
              · rw [if_neg (by decide)]; intro kq
                intro a W K hC hd hK
                have d94 : _ = _ := hd 94 (by decide)
                have d90 : _ = _ := hd 90 (by decide)
                first | (exact wpOp_skip rfl (wanted_of (want := false) (b := true) rfl rfl (by rw [eval_get]; exact d90)) (hK _ _ (Fr.refl _ _) hC rfl)) | (refine wpOp_want rfl (wanted_of (want := false) (b := false) rfl rfl (by rw [eval_get]; exact d90)) ?_)
                all_goals (
                  obtain ⟨x0, x1, x2, x3, x4, xf⟩ := BlkAt.c5 (hb11.fr hC id)
                  go_wp2_with fail
                  exact hK _ _ (Fr.refl _ _) hC rfl)
              · rw [if_neg (by decide)]; intro kq
                intro a W K hC hd hK
                have d91 : _ = _ := hd 91 (by decide)
                have d93 : _ = _ := hd 93 (by decide)
                have d95 : _ = _ := hd 95 (by decide)
                have d90 : _ = _ := hd 90 (by decide)
                first | (exact wpOp_skip rfl (wanted_of (want := false) (b := true) rfl rfl (by rw [eval_get]; exact d90)) (hK _ _ (Fr.refl _ _) hC rfl)) | (refine wpOp_want rfl (wanted_of (want := false) (b := false) rfl rfl (by rw [eval_get]; exact d90)) ?_)
                all_goals (
                  obtain ⟨x0, x1, x2, x3, x4, xf⟩ := BlkAt.c5 (hb11.fr hC id)
                  go_wp2_with fail
                  refine (hja W _ _ (hT11.fr0 hC)).mono ?_
                  rintro e9 w9 ⟨rfl, rfl⟩
                  exact hK _ _ (Fr.refl _ _) hC rfl)
              · rw [if_neg (by decide)]; intro kq
                intro a W K hC hd hK
                have d8 : a.tmps[8]?.getD undef = .pointer (some ⟨b8, 0, none⟩) := hd 8 (by decide)
                have d90 : _ = _ := hd 90 (by decide)
                first | (exact wpOp_skip rfl (wanted_of (want := false) (b := true) rfl rfl (by rw [eval_get]; exact d90)) (hK _ _ (Fr.refl _ _) hC rfl)) | (refine wpOp_want rfl (wanted_of (want := false) (b := false) rfl rfl (by rw [eval_get]; exact d90)) ?_)
                all_goals (
                  obtain ⟨x0, x1, x2, x3, x4, xf⟩ := BlkAt.c5 (hb11.fr hC id)
                  refine wp_load_blk (P := Try.prog) rfl (hB11.fr hC id) 0 (by rw [eval_get]; exact d8) (cs := cs') (by rw [List.drop_zero, List.take_length]) Try.underlying34 rfl hszR ?_
                  exact hK _ _ (Fr.refl _ _) hC rfl)
              · rw [if_neg (by decide)]; intro kq
                intro a W K hC hd hK
                have d10 : a.tmps[10]?.getD undef = .pointer (some ⟨p5, 0, none⟩) := hd 10 (by decide)
                have d90 : _ = _ := hd 90 (by decide)
                first | (exact wpOp_skip rfl (wanted_of (want := false) (b := true) rfl rfl (by rw [eval_get]; exact d90)) (hK _ _ (Fr.refl _ _) hC rfl)) | (refine wpOp_want rfl (wanted_of (want := false) (b := false) rfl rfl (by rw [eval_get]; exact d90)) ?_)
                all_goals (
                  obtain ⟨x0, x1, x2, x3, x4, xf⟩ := BlkAt.c5 (hb11.fr hC id)
                  go_wp2_with fail
                  exact hK _ _ (Fr.refl _ _) hC rfl)
              · rw [if_neg (by decide)]; intro kq
                intro a W K hC hd hK
                have d98 : _ = _ := hd 98 (by decide)
                have d90 : _ = _ := hd 90 (by decide)
                first | (exact wpOp_skip rfl (wanted_of (want := false) (b := true) rfl rfl (by rw [eval_get]; exact d90)) (hK _ _ (Fr.refl _ _) hC rfl)) | (refine wpOp_want rfl (wanted_of (want := false) (b := false) rfl rfl (by rw [eval_get]; exact d90)) ?_)
                all_goals (
                  obtain ⟨x0, x1, x2, x3, x4, xf⟩ := BlkAt.c5 (hb11.fr hC id)
                  go_wp2_with fail
                  exact hK _ _ (Fr.refl _ _) hC rfl)
              · rw [if_neg (by decide)]; intro kq
                intro a W K hC hd hK
                have d10 : a.tmps[10]?.getD undef = .pointer (some ⟨p5, 0, none⟩) := hd 10 (by decide)
                have d90 : _ = _ := hd 90 (by decide)
                first | (exact wpOp_skip rfl (wanted_of (want := false) (b := true) rfl rfl (by rw [eval_get]; exact d90)) (hK _ _ (Fr.refl _ _) hC rfl)) | (refine wpOp_want rfl (wanted_of (want := false) (b := false) rfl rfl (by rw [eval_get]; exact d90)) ?_)
                all_goals (
                  obtain ⟨x0, x1, x2, x3, x4, xf⟩ := BlkAt.c5 (hb11.fr hC id)
                  go_wp2_with fail
                  exact hK _ _ (Fr.refl _ _) hC rfl)
              · rw [if_neg (by decide)]; intro kq
                intro a W K hC hd hK
                have d100 : _ = _ := hd 100 (by decide)
                have d90 : _ = _ := hd 90 (by decide)
                first | (exact wpOp_skip rfl (wanted_of (want := false) (b := true) rfl rfl (by rw [eval_get]; exact d90)) (hK _ _ (Fr.refl _ _) hC rfl)) | (refine wpOp_want rfl (wanted_of (want := false) (b := false) rfl rfl (by rw [eval_get]; exact d90)) ?_)
                all_goals (
                  obtain ⟨x0, x1, x2, x3, x4, xf⟩ := BlkAt.c5 (hb11.fr hC id)
                  go_wp2_with fail
                  exact hK _ _ (Fr.refl _ _) hC rfl)
              · rw [if_neg (by decide)]; intro kq
                intro a W K hC hd hK
                have d97 : a.tmps[97]?.getD undef = .agg cs'.toArray := hd 97 (by decide)
                have d99 : _ = _ := hd 99 (by decide)
                have d101 : _ = _ := hd 101 (by decide)
                have d90 : _ = _ := hd 90 (by decide)
                first | (exact wpOp_skip rfl (wanted_of (want := false) (b := true) rfl rfl (by rw [eval_get]; exact d90)) (hK _ _ (Fr.refl _ _) hC rfl)) | (refine wpOp_want rfl (wanted_of (want := false) (b := false) rfl rfl (by rw [eval_get]; exact d90)) ?_)
                all_goals (
                  obtain ⟨x0, x1, x2, x3, x4, xf⟩ := BlkAt.c5 (hb11.fr hC id)
                  go_wp2_with fail
                  refine (hju W).mono ?_
                  rintro e9 w9 ⟨rfl, f9⟩
                  exact hK _ _ f9 (hC.then' f9) rfl)
              · rw [if_neg (by decide)]; intro kq
                intro a W K hC hd hK
                have d96 : a.tmps[96]?.getD undef = .int .i64 jv := hd 96 (by decide)
                have d102 : a.tmps[102]?.getD undef = .int .i64 jv := hd 102 (by decide)
                have d90 : _ = _ := hd 90 (by decide)
                first | (exact wpOp_skip rfl (wanted_of (want := false) (b := true) rfl rfl (by rw [eval_get]; exact d90)) (hK _ _ (Fr.refl _ _) hC rfl)) | (refine wpOp_want rfl (wanted_of (want := false) (b := false) rfl rfl (by rw [eval_get]; exact d90)) ?_)
                all_goals (
                  go_wp2_with fail
                  exact hK _ _ (Fr.refl _ _) hC rfl)
              · rw [if_neg (by decide)]; intro kq
                intro a W K hC hd hK
                have d90 : _ = _ := hd 90 (by decide)
                have d103 : _ = _ := hd 103 (by decide)
                refine wpOp_plain rfl rfl ?_
                go_wp2_with fail
                exact hK _ _ (Fr.refl _ _) hC rfl
            · intro vs w19 fw19 cw19 hV
              have v86 : vs 0 = _ := hV 0 _ _ rfl rfl (by decide)
              have v87 : vs 1 = .agg cs'.toArray := hV 1 _ _ rfl rfl (by decide)
              have v88 : vs 2 = .bool true := hV 2 _ _ rfl rfl (by decide)
              have v89 : vs 3 = _ := hV 3 _ _ rfl rfl (by decide)
              have v90 : vs 4 = _ := hV 4 _ _ rfl rfl (by decide)
              have v91 : vs 5 = _ := hV 5 _ _ rfl rfl (by decide)
              have v92 : vs 6 = _ := hV 6 _ _ rfl rfl (by decide)
              have v93 : vs 7 = _ := hV 7 _ _ rfl rfl (by decide)
              have v94 : vs 8 = _ := hV 8 _ _ rfl rfl (by decide)
              have v95 : vs 9 = _ := hV 9 _ _ rfl rfl (by decide)
              have v96 : vs 10 = .int .i64 jv := hV 10 _ _ rfl rfl (by decide)
              have v97 : vs 11 = .agg cs'.toArray := hV 11 _ _ rfl rfl (by decide)
              have v98 : vs 12 = _ := hV 12 _ _ rfl rfl (by decide)
              have v99 : vs 13 = _ := hV 13 _ _ rfl rfl (by decide)
              have v100 : vs 14 = _ := hV 14 _ _ rfl rfl (by decide)
              have v101 : vs 15 = _ := hV 15 _ _ rfl rfl (by decide)
              have v102 : vs 16 = .int .i64 jv := hV 16 _ _ rfl rfl (by decide)
              have v103 : vs 17 = _ := hV 17 _ _ rfl rfl (by decide)
              have v104 : vs 18 = _ := hV 18 _ _ rfl rfl (by decide)
              clear hV
              simp only [putL, Act.put, Nat.reduceAdd, List.setIfInBounds_toArray, List.set_cons_zero, List.set_cons_succ, v86, v87, v88, v89, v90, v91, v92, v93, v94, v95, v96, v97, v98, v99, v100, v101, v102, v103, v104]
              have hT19 := hT11.fr0 fw19
              have hB19 := hB11.fr fw19 id
              have F19 := F11.then' fw19
              clear fw19 cw19 hsm hja hju
              go_wp2_with fail
              go_roundw
              case rel => exact ⟨k + 1, p, R, by omega, by go_num, rfl, hT19, by rw [HCS.out]; exact hB19, hR, hp, F19, hpb⟩
              case measure => simp [intOf]; omega
        · have hsm := fun W U q h hA => same15_calls W U q R h hA
          have hju := fun W => judgeR_calls W R hR.len u.cl u.num
          have hja := fun W U q h => judgeA_calls W U q (R.map TRow.abs) u.cl u.num h
          obtain ⟨jv, hjv, _⟩ := judgeV_nat R u.cl u.num
          rw [judge_same, hjv] at hja
          rw [hjv] at hju
          have hszR := tabR_size hR.len
          have hby := bytesT_calls w6 _ p _ hT6
          have hrd := fun W S q h hS => readT_calls W S q (R.map TRow.abs) h hS hR.good hR.top
          have htl : (tblB (R.map TRow.abs)).length ≤ 10000000 := by
            have h1 := tblB_length (R.map TRow.abs) (fun x hx => by have := (hR.good.rows x hx).sum; omega)
            rw [List.length_map, hR.len] at h1
            omega
          generalize htb : tblB (R.map TRow.abs) = tb at *
          clear hjv hput hrep htb
          generalize hcs' : R.flatMap TRow.C = cs' at *
          have HCS := hid hcs'
          clear hcs'
          have hs6' : b8 < w6.heap.size := hB6.lt
          go_wp2_with fail
          refine hby.mono ?_
          rintro ed w7 ⟨rfl, f7⟩
          have hB7 := hB6.fr f7 id
          have hb7 := hb6.fr f7 id
          have F7 := F6.then' f7
          have hs7 := f7.size
          clear x0 x1 x2 x3 x4 xf hT6 hB6 hb6 hby f7
          have hcv := Try.fromStr w7 (mkS tb)
          have hcf := bytesW_fr w7 (mkS tb)
          have hcr := bytesW_row w7 (mkS tb)
          rw [mkS_data] at hcr
          rw [mkS_size] at hcv
          have hB8 := hB7.fr hcf id
          have hb8' := hb7.fr hcf id
          have F8 := F7.then' hcf
          have hs8 := hcf.size
          have hof := of_calls (Lib.bytesWorld w7 5 (mkS tb)) (some ⟨w7.heap.size, 0, none⟩) tb.length (grownCap w7 tb.length 0 5) tb hcr rfl (fun h => by cases h) (by omega)
          generalize (grownCap w7 tb.length 0 5) = cc at *
          generalize (Lib.bytesWorld w7 5 (mkS tb)) = w8 at *
          clear hcf hcr hB7 hb7 F7
          go_wp2_with fail
          refine hof.mono ?_
          rintro ed w9 ⟨q, rfl, hq1, hq2, hr9, f9⟩
          have hB9 := hB8.fr f9 id
          have hb9 := hb8'.fr f9 id
          have F9 := F8.then' f9
          have hs9 := f9.size
          have hr9' := hr9.cut
          clear hof hr9 hB8 hb8' F8 f9
          obtain ⟨S, hS, hSd⟩ : ∃ S : Nat → Prop, RdAt w9 S q ⟨tb, 0⟩ ∧ ∀ k, S k → w8.heap.size ≤ k ∧ k < w9.heap.size := ⟨_, hr9', fun k h => h⟩
          clear hr9'
          have hge := F6.size
          go_wp2_with fail
          refine (hrd w9 S q hS (fun k h => (hSd k h).2)).mono ?_
          rintro ed w10 ⟨q', hq', rfl, hT10, hr10, f10⟩
          have hT11 : TblA w10 (PlU w.heap.size b8) q' (R.map TRow.abs) := hT10.mono (fun k hk h => ⟨by unfold upB at h; omega, by unfold upB at h; omega⟩)
          have hB11 := hB9.fr f10 (fun h => by have := (hSd _ h).1; omega)
          have hb11 := hb9.fr f10 (fun h => by have := (hSd _ h).1; omega)
          have F11 : Fr noB w w10 := F9.trans f10 (fun i hi h => by have := (hSd _ h).1; omega)
          have hend := endRd_calls w10 S q ⟨[], 0⟩ hr10
          rw [show rEnd ⟨[], 0⟩ = 0 from rfl] at hend
          clear hrd hS hT10 hr10 hB9 hb9 F9 f10 F6
          have hqp : w.heap.size ≤ q' ∧ q' ≠ b8 := by omega
          go_wp2_with fail
          refine hend.mono ?_
          rintro ed w11 ⟨rfl, rfl⟩
          go_wp2_with fail
          apply wp_region_calm (R := Fr noB) (C := fun q' W => Fr noB w10 W) [false, false, false, false, false, false, false, false, false, false, false, false, false, false, false, false, false, false, false]
            [eqv _, eqv (.agg cs'.toArray), eqv (.bool true), eqv _, eqv _, eqv _, eqv _, eqv _, eqv _, eqv _, eqv (.int .i64 jv), eqv (.agg cs'.toArray), eqv _, eqv _, eqv _, eqv _, eqv (.int .i64 jv), eqv _, eqv _]
            (by kernel_rfl) (by kernel_rfl) (fun _ _ _ h1 h2 => h1.then' h2) ((Fr.refl _ _).drew) ((Fr.refl _ _).drew) (by kernel_rfl)
          · refine ⟨?_, ?_, ?_, ?_, ?_, ?_, ?_, ?_, ?_, ?_, ?_, ?_, ?_, ?_, ?_, ?_, ?_, ?_, ?_, trivial⟩
            · rw [if_neg (by decide)]; intro kq
              exact calm_mv 7 rfl rfl (Or.inl rfl) (Fr.refl _) (by decide) fun v w hd => hd
            · rw [if_neg (by decide)]; intro kq
              intro a W K hC hd hK
              have d8 : a.tmps[8]?.getD undef = .pointer (some ⟨b8, 0, none⟩) := hd 8 (by decide)
              refine wpOp_plain rfl rfl ?_
              obtain ⟨x0, x1, x2, x3, x4, xf⟩ := BlkAt.c5 (hb11.fr hC id)
              refine wp_load_blk (P := Try.prog) rfl (hB11.fr hC id) 0 (by rw [eval_get]; exact d8) (cs := cs') (by rw [List.drop_zero, List.take_length]) Try.underlying34 rfl hszR ?_
              exact hK _ _ (Fr.refl _ _) hC rfl
            · rw [if_neg (by decide)]; intro kq
              intro a W K hC hd hK
              have d86 : _ = _ := hd 86 (by decide)
              have d87 : a.tmps[87]?.getD undef = .agg cs'.toArray := hd 87 (by decide)
              refine wpOp_plain rfl rfl ?_
              obtain ⟨x0, x1, x2, x3, x4, xf⟩ := BlkAt.c5 (hb11.fr hC id)
              go_wp2_with fail
              refine (hsm W _ _ (hT11.fr0 hC) (hR.ra (F11.then' hC))).mono ?_
              rintro e9 w9 ⟨rfl, f9⟩
              exact hK _ _ f9 (hC.then' f9) rfl
            · rw [if_neg (by decide)]; intro kq
              intro a W K hC hd hK
              have d88 : a.tmps[88]?.getD undef = .bool true := hd 88 (by decide)
              refine wpOp_plain rfl rfl ?_
              go_wp2_with fail
              exact hK _ _ (Fr.refl _ _) hC rfl
            · rw [if_neg (by decide)]; intro kq
              exact calm_mv 89 rfl rfl (Or.inl rfl) (Fr.refl _) (by decide) fun v w hd => hd
            · rw [if_neg (by decide)]; intro kq
              intro a W K hC hd hK
              have d7 : a.tmps[7]?.getD undef = .pointer (some ⟨q', 0, none⟩) := hd 7 (by decide)
              have d90 : _ = _ := hd 90 (by decide)
              first | (exact wpOp_skip rfl (wanted_of (want := false) (b := true) rfl rfl (by rw [eval_get]; exact d90)) (hK _ _ (Fr.refl _ _) hC rfl)) | (refine wpOp_want rfl (wanted_of (want := false) (b := false) rfl rfl (by rw [eval_get]; exact d90)) ?_)
              all_goals (
                go_wp2_with fail
                exact hK _ _ (Fr.refl _ _) hC rfl)
            · rw [if_neg (by decide)]; intro kq
              intro a W K hC hd hK
              have d10 : a.tmps[10]?.getD undef = .pointer (some ⟨p5, 0, none⟩) := hd 10 (by decide)
              have d90 : _ = _ := hd 90 (by decide)
              first | (exact wpOp_skip rfl (wanted_of (want := false) (b := true) rfl rfl (by rw [eval_get]; exact d90)) (hK _ _ (Fr.refl _ _) hC rfl)) | (refine wpOp_want rfl (wanted_of (want := false) (b := false) rfl rfl (by rw [eval_get]; exact d90)) ?_)
              all_goals (
                obtain ⟨x0, x1, x2, x3, x4, xf⟩ := BlkAt.c5 (hb11.fr hC id)
                go_wp2_with fail
                exact hK _ _ (Fr.refl _ _) hC rfl)
            · rw [if_neg (by decide)]; intro kq
              intro a W K hC hd hK
              have d92 : _ = _ := hd 92 (by decide)
              have d90 : _ = _ := hd 90 (by decide)
              first | (exact wpOp_skip rfl (wanted_of (want := false) (b := true) rfl rfl (by rw [eval_get]; exact d90)) (hK _ _ (Fr.refl _ _) hC rfl)) | (refine wpOp_want rfl (wanted_of (want := false) (b := false) rfl rfl (by rw [eval_get]; exact d90)) ?_)
              all_goals (
                obtain ⟨x0, x1, x2, x3, x4, xf⟩ := BlkAt.c5 (hb11.fr hC id)
                go_wp2_with fail
                exact hK _ _ (Fr.refl _ _) hC rfl)
            · rw [if_neg (by decide)]; intro kq
              intro a W K hC hd hK
              have d10 : a.tmps[10]?.getD undef = .pointer (some ⟨p5, 0, none⟩) := hd 10 (by decide)
              have d90 : _ = _ := hd 90 (by decide)
              first | (exact wpOp_skip rfl (wanted_of (want := false) (b := true) rfl rfl (by rw [eval_get]; exact d90)) (hK _ _ (Fr.refl _ _) hC rfl)) | (refine wpOp_want rfl (wanted_of (want := false) (b := false) rfl rfl (by rw [eval_get]; exact d90)) ?_)
              all_goals (
                obtain ⟨x0, x1, x2, x3, x4, xf⟩ := BlkAt.c5 (hb11.fr hC id)
                go_wp2_with fail
                exact hK _ _ (Fr.refl _ _) hC rfl)
            · rw [if_neg (by decide)]; intro kq
              intro a W K hC hd hK
              have d94 : _ = _ := hd 94 (by decide)
              have d90 : _ = _ := hd 90 (by decide)
              first | (exact wpOp_skip rfl (wanted_of (want := false) (b := true) rfl rfl (by rw [eval_get]; exact d90)) (hK _ _ (Fr.refl _ _) hC rfl)) | (refine wpOp_want rfl (wanted_of (want := false) (b := false) rfl rfl (by rw [eval_get]; exact d90)) ?_)
              all_goals (
                obtain ⟨x0, x1, x2, x3, x4, xf⟩ := BlkAt.c5 (hb11.fr hC id)
                go_wp2_with fail
                exact hK _ _ (Fr.refl _ _) hC rfl)
            · rw [if_neg (by decide)]; intro kq
              intro a W K hC hd hK
              have d91 : _ = _ := hd 91 (by decide)
              have d93 : _ = _ := hd 93 (by decide)
              have d95 : _ = _ := hd 95 (by decide)
              have d90 : _ = _ := hd 90 (by decide)
              first | (exact wpOp_skip rfl (wanted_of (want := false) (b := true) rfl rfl (by rw [eval_get]; exact d90)) (hK _ _ (Fr.refl _ _) hC rfl)) | (refine wpOp_want rfl (wanted_of (want := false) (b := false) rfl rfl (by rw [eval_get]; exact d90)) ?_)
              all_goals (
                obtain ⟨x0, x1, x2, x3, x4, xf⟩ := BlkAt.c5 (hb11.fr hC id)
                go_wp2_with fail
                refine (hja W _ _ (hT11.fr0 hC)).mono ?_
                rintro e9 w9 ⟨rfl, rfl⟩
                exact hK _ _ (Fr.refl _ _) hC rfl)
            · rw [if_neg (by decide)]; intro kq
              intro a W K hC hd hK
              have d8 : a.tmps[8]?.getD undef = .pointer (some ⟨b8, 0, none⟩) := hd 8 (by decide)
              have d90 : _ = _ := hd 90 (by decide)
              first | (exact wpOp_skip rfl (wanted_of (want := false) (b := true) rfl rfl (by rw [eval_get]; exact d90)) (hK _ _ (Fr.refl _ _) hC rfl)) | (refine wpOp_want rfl (wanted_of (want := false) (b := false) rfl rfl (by rw [eval_get]; exact d90)) ?_)
              all_goals (
                obtain ⟨x0, x1, x2, x3, x4, xf⟩ := BlkAt.c5 (hb11.fr hC id)
                refine wp_load_blk (P := Try.prog) rfl (hB11.fr hC id) 0 (by rw [eval_get]; exact d8) (cs := cs') (by rw [List.drop_zero, List.take_length]) Try.underlying34 rfl hszR ?_
                exact hK _ _ (Fr.refl _ _) hC rfl)
            · rw [if_neg (by decide)]; intro kq
              intro a W K hC hd hK
              have d10 : a.tmps[10]?.getD undef = .pointer (some ⟨p5, 0, none⟩) := hd 10 (by decide)
              have d90 : _ = _ := hd 90 (by decide)
              first | (exact wpOp_skip rfl (wanted_of (want := false) (b := true) rfl rfl (by rw [eval_get]; exact d90)) (hK _ _ (Fr.refl _ _) hC rfl)) | (refine wpOp_want rfl (wanted_of (want := false) (b := false) rfl rfl (by rw [eval_get]; exact d90)) ?_)
              all_goals (
                obtain ⟨x0, x1, x2, x3, x4, xf⟩ := BlkAt.c5 (hb11.fr hC id)
                go_wp2_with fail
                exact hK _ _ (Fr.refl _ _) hC rfl)
            · rw [if_neg (by decide)]; intro kq
              intro a W K hC hd hK
              have d98 : _ = _ := hd 98 (by decide)
              have d90 : _ = _ := hd 90 (by decide)
              first | (exact wpOp_skip rfl (wanted_of (want := false) (b := true) rfl rfl (by rw [eval_get]; exact d90)) (hK _ _ (Fr.refl _ _) hC rfl)) | (refine wpOp_want rfl (wanted_of (want := false) (b := false) rfl rfl (by rw [eval_get]; exact d90)) ?_)
              all_goals (
                obtain ⟨x0, x1, x2, x3, x4, xf⟩ := BlkAt.c5 (hb11.fr hC id)
                go_wp2_with fail
                exact hK _ _ (Fr.refl _ _) hC rfl)
            · rw [if_neg (by decide)]; intro kq
              intro a W K hC hd hK
              have d10 : a.tmps[10]?.getD undef = .pointer (some ⟨p5, 0, none⟩) := hd 10 (by decide)
              have d90 : _ = _ := hd 90 (by decide)
              first | (exact wpOp_skip rfl (wanted_of (want := false) (b := true) rfl rfl (by rw [eval_get]; exact d90)) (hK _ _ (Fr.refl _ _) hC rfl)) | (refine wpOp_want rfl (wanted_of (want := false) (b := false) rfl rfl (by rw [eval_get]; exact d90)) ?_)
              all_goals (
                obtain ⟨x0, x1, x2, x3, x4, xf⟩ := BlkAt.c5 (hb11.fr hC id)
                go_wp2_with fail
                exact hK _ _ (Fr.refl _ _) hC rfl)
            · rw [if_neg (by decide)]; intro kq
              intro a W K hC hd hK
              have d100 : _ = _ := hd 100 (by decide)
              have d90 : _ = _ := hd 90 (by decide)
              first | (exact wpOp_skip rfl (wanted_of (want := false) (b := true) rfl rfl (by rw [eval_get]; exact d90)) (hK _ _ (Fr.refl _ _) hC rfl)) | (refine wpOp_want rfl (wanted_of (want := false) (b := false) rfl rfl (by rw [eval_get]; exact d90)) ?_)
              all_goals (
                obtain ⟨x0, x1, x2, x3, x4, xf⟩ := BlkAt.c5 (hb11.fr hC id)
                go_wp2_with fail
                exact hK _ _ (Fr.refl _ _) hC rfl)
            · rw [if_neg (by decide)]; intro kq
              intro a W K hC hd hK
              have d97 : a.tmps[97]?.getD undef = .agg cs'.toArray := hd 97 (by decide)
              have d99 : _ = _ := hd 99 (by decide)
              have d101 : _ = _ := hd 101 (by decide)
              have d90 : _ = _ := hd 90 (by decide)
              first | (exact wpOp_skip rfl (wanted_of (want := false) (b := true) rfl rfl (by rw [eval_get]; exact d90)) (hK _ _ (Fr.refl _ _) hC rfl)) | (refine wpOp_want rfl (wanted_of (want := false) (b := false) rfl rfl (by rw [eval_get]; exact d90)) ?_)
              all_goals (
                obtain ⟨x0, x1, x2, x3, x4, xf⟩ := BlkAt.c5 (hb11.fr hC id)
                go_wp2_with fail
                refine (hju W).mono ?_
                rintro e9 w9 ⟨rfl, f9⟩
                exact hK _ _ f9 (hC.then' f9) rfl)
            · rw [if_neg (by decide)]; intro kq
              intro a W K hC hd hK
              have d96 : a.tmps[96]?.getD undef = .int .i64 jv := hd 96 (by decide)
              have d102 : a.tmps[102]?.getD undef = .int .i64 jv := hd 102 (by decide)
              have d90 : _ = _ := hd 90 (by decide)
              first | (exact wpOp_skip rfl (wanted_of (want := false) (b := true) rfl rfl (by rw [eval_get]; exact d90)) (hK _ _ (Fr.refl _ _) hC rfl)) | (refine wpOp_want rfl (wanted_of (want := false) (b := false) rfl rfl (by rw [eval_get]; exact d90)) ?_)
              all_goals (
                go_wp2_with fail
                exact hK _ _ (Fr.refl _ _) hC rfl)
            · rw [if_neg (by decide)]; intro kq
              intro a W K hC hd hK
              have d90 : _ = _ := hd 90 (by decide)
              have d103 : _ = _ := hd 103 (by decide)
              refine wpOp_plain rfl rfl ?_
              go_wp2_with fail
              exact hK _ _ (Fr.refl _ _) hC rfl
          · intro vs w19 fw19 cw19 hV
            have v86 : vs 0 = _ := hV 0 _ _ rfl rfl (by decide)
            have v87 : vs 1 = .agg cs'.toArray := hV 1 _ _ rfl rfl (by decide)
            have v88 : vs 2 = .bool true := hV 2 _ _ rfl rfl (by decide)
            have v89 : vs 3 = _ := hV 3 _ _ rfl rfl (by decide)
            have v90 : vs 4 = _ := hV 4 _ _ rfl rfl (by decide)
            have v91 : vs 5 = _ := hV 5 _ _ rfl rfl (by decide)
            have v92 : vs 6 = _ := hV 6 _ _ rfl rfl (by decide)
            have v93 : vs 7 = _ := hV 7 _ _ rfl rfl (by decide)
            have v94 : vs 8 = _ := hV 8 _ _ rfl rfl (by decide)
            have v95 : vs 9 = _ := hV 9 _ _ rfl rfl (by decide)
            have v96 : vs 10 = .int .i64 jv := hV 10 _ _ rfl rfl (by decide)
            have v97 : vs 11 = .agg cs'.toArray := hV 11 _ _ rfl rfl (by decide)
            have v98 : vs 12 = _ := hV 12 _ _ rfl rfl (by decide)
            have v99 : vs 13 = _ := hV 13 _ _ rfl rfl (by decide)
            have v100 : vs 14 = _ := hV 14 _ _ rfl rfl (by decide)
            have v101 : vs 15 = _ := hV 15 _ _ rfl rfl (by decide)
            have v102 : vs 16 = .int .i64 jv := hV 16 _ _ rfl rfl (by decide)
            have v103 : vs 17 = _ := hV 17 _ _ rfl rfl (by decide)
            have v104 : vs 18 = _ := hV 18 _ _ rfl rfl (by decide)
            clear hV
            simp only [putL, Act.put, Nat.reduceAdd, List.setIfInBounds_toArray, List.set_cons_zero, List.set_cons_succ, v86, v87, v88, v89, v90, v91, v92, v93, v94, v95, v96, v97, v98, v99, v100, v101, v102, v103, v104]
            have hT19 := hT11.fr0 fw19
            have hB19 := hB11.fr fw19 id
            have F19 := F11.then' fw19
            clear fw19 cw19 hsm hja hju
            go_wp2_with fail
            go_roundw
            case rel => exact ⟨k + 1, q', R, by omega, by go_num, rfl, hT19, by rw [HCS.out]; exact hB19, hR, hqp.1, F19, hqp.2⟩
            case measure => simp [intOf]; omega
      · obtain rfl : k = n := by omega
        have hlr : (R.map TRow.abs).length = 8 := by rw [List.length_map, hR.len]
        have hre := fun W h => replyT_calls W (PlU w.heap.size b8) p (R.map TRow.abs) 8 h
        have hla := fun W h => lastA_calls W (PlU w.heap.size b8) p (R.map TRow.abs) 8 h
        have e8 : (R.map TRow.abs)[8]? = none := List.getElem?_eq_none (by omega)
        have er8 : repA (R.map TRow.abs) 8 = (0, []) := by unfold repA; rw [e8]; rfl
        have el8 : lastA (R.map TRow.abs) 8 = 0 := by unfold lastA; rw [e8]; rfl
        rw [er8] at hre
        rw [el8] at hla
        have hju := fun W => judgeR_calls W R hR.len cl num
        have hja := fun W U q h => judgeA_calls W U q (R.map TRow.abs) cl num h
        obtain ⟨jv, hjv, _⟩ := judgeV_nat R cl num
        rw [judge_same, hjv] at hja
        rw [hjv] at hju
        have hszR := tabR_size hR.len
        generalize R.flatMap TRow.C = cs' at *
        clear e8 er8 el8 hjv hlr
        go_wp2_with fail
        refine (hre wr hT).mono ?_
        rintro ed w1 ⟨A1, n1, c1, rfl, hn1, f1⟩
        have hn10 : n1 = 0 := by have := hn1.1; simpa using this.symm
        have hT1 := hT.fr0 f1
        have hB1 := hB.fr f1 id
        have F1 := hf.then' f1
        have hz := BlkAt.new w1 #[.int .i64 0, .slice none 0 0] 42
        have f2 : Fr noB w1 (w1.alloc (.cells #[.int .i64 0, .slice none 0 0] 42)) := (Fr.refl noB w1).alloc _
        have hlb := hB1.lt
        have hlp := hT1.lt
        obtain rfl : n1 = 0 := hn10
        clear hn1 hre hT hB hf f1
        go_upto_region 25 with (refine wpList_store_blk rfl rfl hz 0 (vs := [.int .i64 0, .slice A1 0 c1]) rfl rfl (by kernel_rfl) (by kernel_rfl) (by simp) rfl ?_; intro w3 f3 hb3)
        have hT3 : TblA w3 (PlU w.heap.size b8) p (R.map TRow.abs) := by
          have := (hT1.mono (V := fun k => PlU w.heap.size b8 k ∧ k < w1.heap.size) (fun k hk h => ⟨h, hk⟩)).fr0 f2
          exact (this.fr f3 (fun k _ h h2 => by unfold eqB at h2; omega)).mono (fun k _ h => h.1)
        have hB3 := (hB1.fr f2 id).fr f3 (by unfold eqB; omega)
        have F3 : Fr noB w w3 := (F1.then' f2).trans f3 (fun i hi h => by unfold eqB at h; have := F1.size; omega)
        generalize w1.heap.size = z1 at *
        clear hz f2 f3 hT1 hB1 F1
        apply wp_region_calm (R := Fr noB) (C := fun q' W => Fr noB w3 W) [false, false, false, false, false, false, false, false, false, false, false, false, false, false, false, false, false, false, false, false, false, false, false, false, false, false]
          [eqv _, eqv _, eqv _, eqv (.int .i64 jv), eqv (.agg cs'.toArray), eqv _, eqv _, eqv (.int .i64 jv), eqv _, eqv _, eqv _, eqv (.int .u64 0), eqv _, eqv _, eqv _, eqv _, eqv _, eqv _, eqv _, eqv _, eqv _, eqv _, eqv _, eqv _, eqv _, eqv _]
          (by kernel_rfl) (by kernel_rfl) (fun _ _ _ h1 h2 => h1.then' h2) ((Fr.refl _ _).drew) ((Fr.refl _ _).drew) (by kernel_rfl)
        · refine ⟨?_, ?_, ?_, ?_, ?_, ?_, ?_, ?_, ?_, ?_, ?_, ?_, ?_, ?_, ?_, ?_, ?_, ?_, ?_, ?_, ?_, ?_, ?_, ?_, ?_, ?_, trivial⟩
          · rw [if_neg (by decide)]; intro kq
            exact calm_mv 7 rfl rfl (Or.inl rfl) (Fr.refl _) (by decide) fun v w hd => hd
          · rw [if_neg (by decide)]; intro kq
            exact calm_mv 1 rfl rfl (Or.inl rfl) (Fr.refl _) (by decide) fun v w hd => hd
          · rw [if_neg (by decide)]; intro kq
            exact calm_mv 2 rfl rfl (Or.inl rfl) (Fr.refl _) (by decide) fun v w hd => hd
          · rw [if_neg (by decide)]; intro kq
            intro a W K hC hd hK
            have d108 : _ = _ := hd 108 (by decide)
            have d109 : _ = _ := hd 109 (by decide)
            have d110 : _ = _ := hd 110 (by decide)
            refine wpOp_plain rfl rfl ?_
            obtain ⟨x0, x1, xf⟩ := BlkAt.c2 (hb3.fr hC id)
            go_wp2_with fail
            refine (hja W _ _ (hT3.fr0 hC)).mono ?_
            rintro e9 w9 ⟨rfl, rfl⟩
            exact hK _ _ (Fr.refl _ _) hC rfl
          · rw [if_neg (by decide)]; intro kq
            intro a W K hC hd hK
            have d8 : a.tmps[8]?.getD undef = .pointer (some ⟨b8, 0, none⟩) := hd 8 (by decide)
            refine wpOp_plain rfl rfl ?_
            obtain ⟨x0, x1, xf⟩ := BlkAt.c2 (hb3.fr hC id)
            refine wp_load_blk (P := Try.prog) rfl (hB3.fr hC id) 0 (by rw [eval_get]; exact d8) (cs := cs') (by rw [List.drop_zero, List.take_length]) Try.underlying34 rfl hszR ?_
            exact hK _ _ (Fr.refl _ _) hC rfl
          · rw [if_neg (by decide)]; intro kq
            exact calm_mv 1 rfl rfl (Or.inl rfl) (Fr.refl _) (by decide) fun v w hd => hd
          · rw [if_neg (by decide)]; intro kq
            exact calm_mv 2 rfl rfl (Or.inl rfl) (Fr.refl _) (by decide) fun v w hd => hd
          · rw [if_neg (by decide)]; intro kq
            intro a W K hC hd hK
            have d112 : a.tmps[112]?.getD undef = .agg cs'.toArray := hd 112 (by decide)
            have d113 : _ = _ := hd 113 (by decide)
            have d114 : _ = _ := hd 114 (by decide)
            refine wpOp_plain rfl rfl ?_
            obtain ⟨x0, x1, xf⟩ := BlkAt.c2 (hb3.fr hC id)
            go_wp2_with fail
            refine (hju W).mono ?_
            rintro e9 w9 ⟨rfl, f9⟩
            exact hK _ _ f9 (hC.then' f9) rfl
          · rw [if_neg (by decide)]; intro kq
            intro a W K hC hd hK
            have d111 : a.tmps[111]?.getD undef = .int .i64 jv := hd 111 (by decide)
            have d115 : a.tmps[115]?.getD undef = .int .i64 jv := hd 115 (by decide)
            refine wpOp_plain rfl rfl ?_
            go_wp2_with fail
            exact hK _ _ (Fr.refl _ _) hC rfl
          · rw [if_neg (by decide)]; intro kq
            exact calm_mv 116 rfl rfl (Or.inl rfl) (Fr.refl _) (by decide) fun v w hd => hd
          · rw [if_neg (by decide)]; intro kq
            intro a W K hC hd hK
            have d7 : a.tmps[7]?.getD undef = .pointer (some ⟨p, 0, none⟩) := hd 7 (by decide)
            have d117 : _ = _ := hd 117 (by decide)
            first | (exact wpOp_skip rfl (wanted_of (want := true) (b := false) rfl rfl (by rw [eval_get]; exact d117)) (hK _ _ (Fr.refl _ _) hC rfl)) | (refine wpOp_want rfl (wanted_of (want := true) (b := true) rfl rfl (by rw [eval_get]; exact d117)) ?_)
            all_goals (
              go_wp2_with fail
              exact hK _ _ (Fr.refl _ _) hC rfl)
          · rw [if_neg (by decide)]; intro kq
            intro a W K hC hd hK
            have d118 : _ = _ := hd 118 (by decide)
            have d117 : _ = _ := hd 117 (by decide)
            first | (exact wpOp_skip rfl (wanted_of (want := true) (b := false) rfl rfl (by rw [eval_get]; exact d117)) (hK _ _ (Fr.refl _ _) hC rfl)) | (refine wpOp_want rfl (wanted_of (want := true) (b := true) rfl rfl (by rw [eval_get]; exact d117)) ?_)
            all_goals (
              obtain ⟨x0, x1, xf⟩ := BlkAt.c2 (hb3.fr hC id)
              go_wp2_with fail
              refine (hla W (hT3.fr0 hC)).mono ?_
              rintro e9 w9 ⟨rfl, rfl⟩
              exact hK _ _ (Fr.refl _ _) hC rfl)
          · rw [if_neg (by decide)]; intro kq
            intro a W K hC hd hK
            have d119 : a.tmps[119]?.getD undef = .int .u64 0 := hd 119 (by decide)
            have d117 : _ = _ := hd 117 (by decide)
            first | (exact wpOp_skip rfl (wanted_of (want := true) (b := false) rfl rfl (by rw [eval_get]; exact d117)) (hK _ _ (Fr.refl _ _) hC rfl)) | (refine wpOp_want rfl (wanted_of (want := true) (b := true) rfl rfl (by rw [eval_get]; exact d117)) ?_)
            all_goals (
              go_wp2_with fail
              exact hK _ _ (Fr.refl _ _) hC rfl)
          · rw [if_neg (by decide)]; intro kq
            intro a W K hC hd hK
            have d117 : _ = _ := hd 117 (by decide)
            have d120 : _ = _ := hd 120 (by decide)
            refine wpOp_plain rfl rfl ?_
            go_wp2_with fail
            exact hK _ _ (Fr.refl _ _) hC rfl
          · rw [if_neg (by decide)]; intro kq
            exact calm_mv 121 rfl rfl (Or.inl rfl) (Fr.refl _) (by decide) fun v w hd => hd
          · rw [if_neg (by decide)]; intro kq
            intro a W K hC hd hK
            have d15 : a.tmps[15]?.getD undef = .pointer (some ⟨z1, 0, none⟩) := hd 15 (by decide)
            have d122 : _ = _ := hd 122 (by decide)
            first | (exact wpOp_skip rfl (wanted_of (want := true) (b := false) rfl rfl (by rw [eval_get]; exact d122)) (hK _ _ (Fr.refl _ _) hC rfl)) | (refine wpOp_want rfl (wanted_of (want := true) (b := true) rfl rfl (by rw [eval_get]; exact d122)) ?_)
            all_goals (
              obtain ⟨x0, x1, xf⟩ := BlkAt.c2 (hb3.fr hC id)
              go_wp2_with fail
              exact hK _ _ (Fr.refl _ _) hC rfl)
          · rw [if_neg (by decide)]; intro kq
            intro a W K hC hd hK
            have d123 : _ = _ := hd 123 (by decide)
            have d122 : _ = _ := hd 122 (by decide)
            first | (exact wpOp_skip rfl (wanted_of (want := true) (b := false) rfl rfl (by rw [eval_get]; exact d122)) (hK _ _ (Fr.refl _ _) hC rfl)) | (refine wpOp_want rfl (wanted_of (want := true) (b := true) rfl rfl (by rw [eval_get]; exact d122)) ?_)
            all_goals (
              obtain ⟨x0, x1, xf⟩ := BlkAt.c2 (hb3.fr hC id)
              go_wp2_with fail
              exact hK _ _ (Fr.refl _ _) hC rfl)
          · rw [if_neg (by decide)]; intro kq
            intro a W K hC hd hK
            have d124 : _ = _ := hd 124 (by decide)
            have d122 : _ = _ := hd 122 (by decide)
            first | (exact wpOp_skip rfl (wanted_of (want := true) (b := false) rfl rfl (by rw [eval_get]; exact d122)) (hK _ _ (Fr.refl _ _) hC rfl)) | (refine wpOp_want rfl (wanted_of (want := true) (b := true) rfl rfl (by rw [eval_get]; exact d122)) ?_)
            all_goals (
              go_wp2_with fail
              exact hK _ _ (Fr.refl _ _) hC rfl)
          · rw [if_neg (by decide)]; intro kq
            intro a W K hC hd hK
            have d122 : _ = _ := hd 122 (by decide)
            have d125 : _ = _ := hd 125 (by decide)
            refine wpOp_plain rfl rfl ?_
            go_wp2_with fail
            exact hK _ _ (Fr.refl _ _) hC rfl
          · rw [if_neg (by decide)]; intro kq
            exact calm_mv 126 rfl rfl (Or.inl rfl) (Fr.refl _) (by decide) fun v w hd => hd
          · rw [if_neg (by decide)]; intro kq
            intro a W K hC hd hK
            have d15 : a.tmps[15]?.getD undef = .pointer (some ⟨z1, 0, none⟩) := hd 15 (by decide)
            have d127 : _ = _ := hd 127 (by decide)
            first | (exact wpOp_skip rfl (wanted_of (want := true) (b := false) rfl rfl (by rw [eval_get]; exact d127)) (hK _ _ (Fr.refl _ _) hC rfl)) | (refine wpOp_want rfl (wanted_of (want := true) (b := true) rfl rfl (by rw [eval_get]; exact d127)) ?_)
            all_goals (
              obtain ⟨x0, x1, xf⟩ := BlkAt.c2 (hb3.fr hC id)
              go_wp2_with fail
              exact hK _ _ (Fr.refl _ _) hC rfl)
          · rw [if_neg (by decide)]; intro kq
            intro a W K hC hd hK
            have d128 : _ = _ := hd 128 (by decide)
            have d127 : _ = _ := hd 127 (by decide)
            first | (exact wpOp_skip rfl (wanted_of (want := true) (b := false) rfl rfl (by rw [eval_get]; exact d127)) (hK _ _ (Fr.refl _ _) hC rfl)) | (refine wpOp_want rfl (wanted_of (want := true) (b := true) rfl rfl (by rw [eval_get]; exact d127)) ?_)
            all_goals (
              obtain ⟨x0, x1, xf⟩ := BlkAt.c2 (hb3.fr hC id)
              go_wp2_with fail
              exact hK _ _ (Fr.refl _ _) hC rfl)
          · rw [if_neg (by decide)]; intro kq
            intro a W K hC hd hK
            have d129 : _ = _ := hd 129 (by decide)
            have d127 : _ = _ := hd 127 (by decide)
            first | (exact wpOp_skip rfl (wanted_of (want := true) (b := false) rfl rfl (by rw [eval_get]; exact d127)) (hK _ _ (Fr.refl _ _) hC rfl)) | (refine wpOp_want rfl (wanted_of (want := true) (b := true) rfl rfl (by rw [eval_get]; exact d127)) ?_)
            all_goals (
              obtain ⟨x0, x1, xf⟩ := BlkAt.c2 (hb3.fr hC id)
              go_wp2_with fail
              exact hK _ _ (Fr.refl _ _) hC rfl)
          · rw [if_neg (by decide)]; intro kq
            intro a W K hC hd hK
            have d130 : _ = _ := hd 130 (by decide)
            have d127 : _ = _ := hd 127 (by decide)
            first | (exact wpOp_skip rfl (wanted_of (want := true) (b := false) rfl rfl (by rw [eval_get]; exact d127)) (hK _ _ (Fr.refl _ _) hC rfl)) | (refine wpOp_want rfl (wanted_of (want := true) (b := true) rfl rfl (by rw [eval_get]; exact d127)) ?_)
            all_goals (
              go_wp2_with fail
              exact hK _ _ (Fr.refl _ _) hC rfl)
          · rw [if_neg (by decide)]; intro kq
            intro a W K hC hd hK
            have d127 : _ = _ := hd 127 (by decide)
            have d131 : _ = _ := hd 131 (by decide)
            refine wpOp_plain rfl rfl ?_
            go_wp2_with fail
            exact hK _ _ (Fr.refl _ _) hC rfl
          · rw [if_neg (by decide)]; intro kq
            exact calm_mv 132 rfl rfl (Or.inr rfl) (Fr.refl _) (by decide) fun v w hd => hd
        · intro vs w19 fw19 cw19 hV
          have v108 : vs 0 = _ := hV 0 _ _ rfl rfl (by decide)
          have v109 : vs 1 = _ := hV 1 _ _ rfl rfl (by decide)
          have v110 : vs 2 = _ := hV 2 _ _ rfl rfl (by decide)
          have v111 : vs 3 = .int .i64 jv := hV 3 _ _ rfl rfl (by decide)
          have v112 : vs 4 = .agg cs'.toArray := hV 4 _ _ rfl rfl (by decide)
          have v113 : vs 5 = _ := hV 5 _ _ rfl rfl (by decide)
          have v114 : vs 6 = _ := hV 6 _ _ rfl rfl (by decide)
          have v115 : vs 7 = .int .i64 jv := hV 7 _ _ rfl rfl (by decide)
          have v116 : vs 8 = _ := hV 8 _ _ rfl rfl (by decide)
          have v117 : vs 9 = _ := hV 9 _ _ rfl rfl (by decide)
          have v118 : vs 10 = _ := hV 10 _ _ rfl rfl (by decide)
          have v119 : vs 11 = .int .u64 0 := hV 11 _ _ rfl rfl (by decide)
          have v120 : vs 12 = _ := hV 12 _ _ rfl rfl (by decide)
          have v121 : vs 13 = _ := hV 13 _ _ rfl rfl (by decide)
          have v122 : vs 14 = _ := hV 14 _ _ rfl rfl (by decide)
          have v123 : vs 15 = _ := hV 15 _ _ rfl rfl (by decide)
          have v124 : vs 16 = _ := hV 16 _ _ rfl rfl (by decide)
          have v125 : vs 17 = _ := hV 17 _ _ rfl rfl (by decide)
          have v126 : vs 18 = _ := hV 18 _ _ rfl rfl (by decide)
          have v127 : vs 19 = _ := hV 19 _ _ rfl rfl (by decide)
          have v128 : vs 20 = _ := hV 20 _ _ rfl rfl (by decide)
          have v129 : vs 21 = _ := hV 21 _ _ rfl rfl (by decide)
          have v130 : vs 22 = _ := hV 22 _ _ rfl rfl (by decide)
          have v131 : vs 23 = _ := hV 23 _ _ rfl rfl (by decide)
          have v132 : vs 24 = _ := hV 24 _ _ rfl rfl (by decide)
          have v6 : vs 25 = _ := hV 25 _ _ rfl rfl (by decide)
          clear hV
          simp only [putL, Act.put, Nat.reduceAdd, List.setIfInBounds_toArray, List.set_cons_zero, List.set_cons_succ, v108, v109, v110, v111, v112, v113, v114, v115, v116, v117, v118, v119, v120, v121, v122, v123, v124, v125, v126, v127, v128, v129, v130, v131, v132, v6]
          have F19 := F3.then' fw19
          go_wp2_with fail
          go_ret
          exact ⟨rfl, F19⟩
end Go.Proofs.Ytdngcheimohamaa
/- TablePlays' law over its arguments. -/
namespace Go.Proofs.Ytdngcheimohamaa
open Go.RowKit
theorem tablePlays_law (w : World) (A : Option Addr) (n c : Nat) (L : List ActT) (o : ActsAt w A L ∧ L.length = n ∧ n ≤ c ∧ c ≤ maxLen ∧ (∀ a ∈ L, a.ok) ∧ (A = none → n = 0 ∧ c = 0)) (cl : Int) (wc : (Lit.int .u8 cl).wf = true) (num : Int) (wn : (Lit.int .u64 num).wf = true) :
    Calls Try.prog 3 #[.slice A n c, .int .u8 cl, .int .u64 num] w (BoolPost w true) := by
  obtain ⟨i0, i1⟩ := u8_nat wc
  obtain ⟨n0, n1⟩ := u64_nat wn
  obtain ⟨a, rfl⟩ := Int.eq_ofNat_of_zero_le i0
  obtain ⟨b, rfl⟩ := Int.eq_ofNat_of_zero_le n0
  exact plays_walk w A c n L a b o.1 o.2.1 (Nat.le_trans (Nat.le_trans o.2.2.1 o.2.2.2.1) (by decide)) o.2.2.2.2.1 (by omega) (by omega)
end Go.Proofs.Ytdngcheimohamaa
