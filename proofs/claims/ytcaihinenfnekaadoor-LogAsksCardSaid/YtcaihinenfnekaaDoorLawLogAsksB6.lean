/- What the row leans on, part 6: contracts and plain laws. -/
import Derived.Test.YtcaihinenfnekaaDoorProg
import Derived.WalkKit
import Derived.Maps.AppendAt
import Derived.Lib.AppendStr
import Derived.Laws.AppendOwnNone
import Derived.Deep.Draws
import Derived.WalkSpells
import Derived.Laws.IdiomStrings
import Derived.Lib.ConvBytes
import Derived.Lib.LaidTab
import Derived.LaidSub
import Derived.Deep.QuietTactic
import Derived.BigQuiet
import Derived.Lib.OthersKept
import Derived.Laws.RangeAny
import Derived.LaidEqlPtr
import Derived.Laws.StructEq
import Derived.Deep.Light
import Derived.Laws.Bits64b
import Derived.Laws.ResultCell
import Derived.Deep.RegionHeld3
import Derived.Deep.Cut
import Derived.RangeFuncNested
import Derived.RangeFuncBound
import Derived.RangeFuncCalls
import Derived.RangeFuncLeaves
import Derived.Shelf.Abstract
import Derived.Shelf.RegionOpen
import Derived.OwnWalkIn
import Derived.TacticsInMore
import Derived.LoopNIn
import Derived.LoopIn
import Derived.SliceStrings
import Derived.Deep.Slices
import Derived.ProofKit
import Derived.Test.YtcaihinenfnekaaDoorLawLogAsksB5
/- The reference's Append. -/
namespace Go.Proofs.YtcaihinenfnekaaDoor
open Go.RowKit
theorem op_app_any {P : Program} {o : Oper} {a : Act} {w : World} {K : Act → World → Prop} {Q : Exit → Act → World → Prop} {t e : TypeId} {z : Value} {size bytes : Nat} (A : AppTy P t e z size bytes)
    (s x : Operand) (ho : o.op = .call { callee := .builtin .append, args := #[s, x], argTypes := #[t, t] })
    (v : Value) (n : Nat) (xs : List Value) (hs : a.eval s = v) (hown : w.ownsRow 0 e size v n xs)
    (B : Option Addr) (m c : Nat) (news : List Value) (hx : a.eval x = .slice B m c) (hl : news.length = m * size) (hnews : RowAt w B news) (h1 : ∀ u ∈ news, u.oneCell' = true)
    (hB : B = none → m = 0 ∧ c = 0) (hbytes : (n + m) * bytes ≤ 140737488355328) (h63 : n + m ≤ 140737488355328)
    (h : ∀ A' c' w', w'.ownsRow 0 e size (.slice A' (n + m) c') (n + m) (xs ++ news) → w.grownBy w' v.ownBlock → ((Value.slice A' (n + m) c').ownBlock = v.ownBlock ∨ (Value.slice A' (n + m) c').ownBlock = some w.heap.size) → K (a.put o.dst (.slice A' (n + m) c')) w') :
    o.wp P a w K Q := by
  cases B with
  | some ad => exact op_app A s x ho v n xs hs hown (some ad) m c news hx hl hnews h1 (by simp) hbytes h63 h
  | none =>
    obtain ⟨rfl, rfl⟩ := hB rfl
    have hn : news = [] := List.eq_nil_of_length_eq_zero (by simpa using hl)
    subst hn
    obtain ⟨i, hi, _⟩ := info_parts A.info
    obtain ⟨A', c', rfl⟩ := own_slice hown
    have hr := run_append_owned_none (P := P) (w := w) 0 t o.type e i size A.und hi _ n xs hown
    unfold Oper.wp execOp
    simp only [ho, resolve, invoke, builtin, Sem.run_bind, Sem.run_pure, Result.andThen_ok, List.map_toArray, List.map_cons, List.map_nil, hs, hx, hr]
    exact h A' c' w (by simpa using hown) ⟨rfl, rfl, rfl, Nat.le_refl _, fun _ _ _ => rfl⟩ (Or.inl rfl)
/-- A slice value, not nil. -/
def SlS (R : World → World → Prop) : Stb R := ⟨fun v _ => ∃ g n c, v = .slice (some ⟨g, 0, none⟩) n c, fun _ _ _ h _ => h⟩
theorem sl_undef {g n c : Nat} {v : Value} {p : Prop} (h : v = undef ∨ p) (hv : v = .slice (some ⟨g, 0, none⟩) n c) : p := by
  rcases h with h | h
  · rw [hv] at h; exact absurd h (by simp [undef])
  · exact h
section steps
variable {n0 pl pe b n c : Nat} {A : Option Addr} {xs E : List Value} {v25 v28 v30 v31 : Value} {W : World}
theorem AppRC.s01 (h : AppRC n0 pl pe b n c A xs E 0 v25 v28 v30 v31 W) : AppRC n0 pl pe b n c A xs E 1 v25 v28 v30 v31 W :=
  ⟨h.ent, fun _ => h.old (by omega), fun _ => h.log (by omega), fun k => by omega, fun _ => h.e25 (by omega), fun k => by omega, fun k => by omega, fun _ => h.e30 (by omega)⟩
theorem own_lt' {w : World} {base n : Nat} {e : TypeId} {size : Nat} {v : Value} {xs : List Value} (h : w.ownsRow base e size v n xs) : v.ownBlock ≠ some w.heap.size := fun e => by
  have := (h.lt _ e).2; omega
theorem AppRC.cur_ne {q : Nat} (h : AppRC n0 pl pe b n c A xs E q v25 v28 v30 v31 W) (hq : q ≤ 2) : (curV q v25 v28).ownBlock ≠ some W.heap.size := by
  unfold curV
  split
  · rename_i h1
    rcases h.e25 h1 with h2 | ⟨g, h2, h3⟩
    · rw [h2]; simp [Value.ownBlock, undef]
    · exact own_lt' h3
  · obtain ⟨B, d, h2, h3⟩ := h.e28 (by omega)
    exact own_lt' h3
theorem AppRC.p25 {q : Nat} (h : AppRC n0 pl pe b n c A xs E q v25 v28 v30 v31 W) (h0 : n0 ≤ W.heap.size) : AppRC n0 pl pe b n c A xs E q (.slice (some ⟨W.heap.size, 0, none⟩) 0 0) v28 v30 v31 (W.alloc (.cells #[] 90)) := by
  have k := h.fr0 ((Fr.refl noB W).alloc (.cells #[] 90))
  refine ⟨k.ent, k.old, k.log, k.done, fun hq => Or.inr ⟨W.heap.size, rfl, World.ownsRow_made W #[] 0 h0 (by unfold maxLen; omega) rfl⟩, k.e28, k.e31, fun hq => ?_⟩
  rcases h.e30 hq with h1 | ⟨g, h1, h2, h3, h4, h5⟩
  · exact Or.inl h1
  · refine Or.inr ⟨g, h1, h2.fr0 ((Fr.refl noB W).alloc _), h3, by rw [al_size]; omega, ?_⟩
    unfold curV at *
    split
    · simp [Value.ownBlock]; omega
    · rename_i h6; rw [if_neg h6] at h5; exact h5
theorem AppRC.p30 {q : Nat} (h : AppRC n0 pl pe b n c A xs E q v25 v28 v30 v31 W) (h0 : n0 ≤ W.heap.size) : AppRC n0 pl pe b n c A xs E q v25 v28 (.slice (some ⟨W.heap.size, 0, none⟩) 1 1) v31 (W.alloc (.cells E.toArray 90)) := by
  have k := h.fr0 ((Fr.refl noB W).alloc (.cells E.toArray 90))
  exact ⟨k.ent, k.old, k.log, k.done, k.e25, k.e28, k.e31, fun hq => Or.inr ⟨W.heap.size, rfl, by have := new_row W E.toArray 90; simpa using this, h0, by rw [al_size]; omega, h.cur_ne hq⟩⟩
theorem AppRC.s12 {W' : World} {A' : Option Addr} {c' : Nat} (h : AppRC n0 pl pe b n c A xs E 1 v25 v28 v30 v31 W) (h0 : n0 ≤ W.heap.size) (hp : pl < n0) (he : pe < n0) (hb : ∀ g, v25.ownBlock = some g → n0 ≤ g)
    (hO : W'.ownsRow 0 90 9 (.slice A' n c') n xs) (hg : W.grownBy W' v25.ownBlock) (hat : (Value.slice A' n c').ownBlock = v25.ownBlock ∨ (Value.slice A' n c').ownBlock = some W.heap.size) :
    AppRC n0 pl pe b n c A xs E 2 v25 (.slice A' n c') v30 v31 W' := by
  have f : Fr (fun k => v25.ownBlock = some k) W W' := (Fr.refl _ W).grown hg (fun k hk => Or.inl hk)
  refine ⟨h.ent.fr f (fun e => by have := hb _ e; omega), fun k => by omega, fun _ => (h.log (by omega)).fr f (fun e => by have := hb _ e; omega), fun k => by omega, fun k => by omega, fun _ => ⟨A', c', rfl, own_mono hO (fun g e => ?_)⟩, fun k => by omega, fun _ => ?_⟩
  · rcases hat with h1 | h1
    · exact hb g (h1 ▸ e)
    · rw [e] at h1; cases h1; exact h0
  · rcases h.e30 (by omega) with h1 | ⟨g, h1, h2, h3, h4, h5⟩
    · exact Or.inl h1
    · refine Or.inr ⟨g, h1, h2.fr f (fun ad e _ _ => by cases e; exact h5), h3, Nat.lt_of_lt_of_le h4 f.size, ?_⟩
      show (Value.slice A' n c').ownBlock ≠ some g
      rcases hat with h6 | h6
      · rw [h6]; exact h5
      · rw [h6]; intro e; cases e; omega
theorem AppRC.s23 {W' : World} {A' : Option Addr} {c' : Nat} (h : AppRC n0 pl pe b n c A xs E 2 v25 v28 v30 v31 W) (h0 : n0 ≤ W.heap.size) (hp : pl < n0) (he : pe < n0) (hb : ∀ g, v28.ownBlock = some g → n0 ≤ g)
    (hO : W'.ownsRow 0 90 9 (.slice A' (n + 1) c') (n + 1) (xs ++ E)) (hg : W.grownBy W' v28.ownBlock) (hat : (Value.slice A' (n + 1) c').ownBlock = v28.ownBlock ∨ (Value.slice A' (n + 1) c').ownBlock = some W.heap.size) :
    AppRC n0 pl pe b n c A xs E 3 v25 v28 v30 (.slice A' (n + 1) c') W' := by
  have f : Fr (fun k => v28.ownBlock = some k) W W' := (Fr.refl _ W).grown hg (fun k hk => Or.inl hk)
  refine ⟨h.ent.fr f (fun e => by have := hb _ e; omega), fun k => by omega, fun _ => (h.log (by omega)).fr f (fun e => by have := hb _ e; omega), fun k => by omega, fun k => by omega, fun k => by omega, fun _ => ⟨A', c', rfl, own_mono hO (fun g e => ?_)⟩, fun k => by omega⟩
  rcases hat with h1 | h1
  · exact hb g (h1 ▸ e)
  · rw [e] at h1; cases h1; exact h0
theorem AppRC.s34 {A' : Option Addr} {c' : Nat} (h : AppRC n0 pl pe b n c A xs E 3 v25 v28 v30 v31 W) (hv : v31 = .slice A' (n + 1) c') (hp : pl < n0) (he : pe ≠ pl) :
    AppRC n0 pl pe b n c A xs E 4 v25 v28 v30 v31 (W.setCell ⟨pl, 1, none⟩ (.slice A' (n + 1) c')) := by
  have fs := fr_set1 W pl 1 (.slice A' (n + 1) c')
  have hset := (h.log (by omega)).set 1 (.slice A' (n + 1) c')
  obtain ⟨B, d, h1, h2⟩ := h.e31 rfl
  rw [hv] at h1
  cases h1
  rw [hv] at h2
  exact ⟨h.ent.fr fs (by unfold eqB; omega), fun k => by omega, fun k => by omega, fun _ => ⟨A', c', hset, own_fr h2 fs (fun g hg e => by have := (h2.lt g hg).1; unfold eqB at e; omega)⟩, fun k => by omega, fun k => by omega, fun k => by omega, fun k => by omega⟩
end steps

set_option maxRecDepth 100000 in
set_option maxHeartbeats 1600000 in
theorem appR_calls (w : World) (b n c : Nat) (A : Option Addr) (es : List EnV) (e : EnV) (h : RefA w A n c es) (hG : GoodL b es) (hw : e.wf) (ha : e.o.a.size ≤ 1000000000000) (hb : e.o.b.size ≤ 1000000000000) :
    Calls Tryd.prog 74 #[.agg #[.int .u64 b, .slice A n c], e.v] w (fun ed w' => ∃ B m d, ed = .returned (.tuple #[.agg #[.int .u64 b, .slice B m d], .int .i64 ((appL b es e).2 : Nat)]) ∧ RefA w' B m d (appL b es e).1 ∧ Placed w w' A B ∧ Fr noB w w') := by
  have HV : Hid (appL b es e = if checkE e ≠ 0 then (es, checkE e) else if e.op ≠ lastL b es + 1 then (es, 12) else if 16 ≤ es.length then (es, 7) else (es ++ [e], 0)) := rfl
  have hck := fun W => checkEr_calls W e hw ha hb
  have hll := hG.last
  have hbb := hG.base
  have hw16 := hG.few
  have HN := h.len
  have HLA : Hid (lastL b es = b + n) := by unfold Hid lastL; rw [HN.out]
  have hla := fun W => lastR_calls W b n c A (by have := HLA.out; omega)
  rw [HLA.out, HN.out] at HV
  rw [HN.out] at hw16
  have hop := hw.op
  have hone : ∀ u ∈ e.C, u.oneCell' = true := by have := flatE_one [e]; simpa using this
  have hfl1 : Hid ((es ++ [e]).flatMap EnV.C = es.flatMap EnV.C ++ e.C) := by unfold Hid; simp
  have hone' := flatE_one es
  have hlenx : (es.flatMap EnV.C).length = n * 9 := by rw [flatE_length, HN.out]
  have hsn : Hid ((es ++ [e]).length = n + 1) := by unfold Hid; rw [List.length_append, HN.out]; rfl
  have f0 : Fr noB w (((w.alloc (.cells #[.int .u64 b, .slice A n c] 54)).alloc (.cells e.C.toArray 90)).alloc (.cells #[.int .u64 0, .slice none 0 0] 54)) := (((Fr.refl noB w).alloc _).alloc _).alloc _
  have hb0 : BlkAt (((w.alloc (.cells #[.int .u64 b, .slice A n c] 54)).alloc (.cells e.C.toArray 90)).alloc (.cells #[.int .u64 0, .slice none 0 0] 54)) w.heap.size 54 #[.int .u64 b, .slice A n c] := ((BlkAt.new _ _ _).al _).al _
  have hb1 : BlkAt (((w.alloc (.cells #[.int .u64 b, .slice A n c] 54)).alloc (.cells e.C.toArray 90)).alloc (.cells #[.int .u64 0, .slice none 0 0] 54)) (w.heap.size + 1) 90 e.C.toArray := by
    have := (BlkAt.new (w.alloc (.cells #[.int .u64 b, .slice A n c] 54)) e.C.toArray 90).al (.cells #[.int .u64 0, .slice none 0 0] 54)
    rwa [al_size] at this
  have hb2 : BlkAt (((w.alloc (.cells #[.int .u64 b, .slice A n c] 54)).alloc (.cells e.C.toArray 90)).alloc (.cells #[.int .u64 0, .slice none 0 0] 54)) (w.heap.size + 2) 54 #[.int .u64 0, .slice none 0 0] := by
    have := BlkAt.new ((w.alloc (.cells #[.int .u64 b, .slice A n c] 54)).alloc (.cells e.C.toArray 90)) #[.int .u64 0, .slice none 0 0] 54
    rwa [al_size, al_size] at this
  have hr : Hid (Tryd.f74.results = #[.cell 4 54, .tmp 5]) := by unfold Hid; kernel_rfl
  have hnil := h.nil
  clear HLA hw ha hb hG
  obtain ⟨op, view, cl, num, ⟨k, oa, ob, on, or⟩⟩ := e
  unfold EnV.v at *
  unfold EnV.C at f0 hb0 hb1 hb2 hone
  simp only [] at *
  generalize es ++ [(⟨op, view, cl, num, ⟨k, oa, ob, on, or⟩⟩ : EnV)] = es1 at *
  generalize checkE ⟨op, view, cl, num, ⟨k, oa, ob, on, or⟩⟩ = cv at *
  generalize appL b es ⟨op, view, cl, num, ⟨k, oa, ob, on, or⟩⟩ = res at *
  have hcl : ((b + n : Nat) : Int) = (b : Int) + n := by omega
  have hw2 : IntKind.u64.wrap ((b : Int) + n + 1) = b + n + 1 := by rw [IntKind.wrap_u64]; omega
  obtain ⟨c2, hc2⟩ : ∃ c, ((op : Int) != (b : Int) + n + 1) = c := ⟨_, rfl⟩
  have hd2 : Hid (c2 = true ↔ op ≠ b + n + 1) := by rw [← hc2]; unfold Hid; rw [bne_iff_ne]; omega
  have hfs := fun (W : World) (u0 u1 : Value) => ((fr_set1 W (w.heap.size + 2) 0 u0).then' (fr_set1 _ (w.heap.size + 2) 1 u1))
  go_enter Tryd.func74, Tryd.ntmps74
  go_upto_region 1 with fail
  generalize (((w.alloc (.cells #[.int .u64 b, .slice A n c] 54)).alloc (.cells #[.int .u64 op, .int .u64 view, .int .u8 cl, .int .u64 num, .int .u8 k, .string oa, .string ob, .int .u8 on, .int .u8 or] 90)).alloc (.cells #[.int .u64 0, .slice none 0 0] 54)) = wa at *
  obtain ⟨x0, x1, x2, x3, x4, x5, x6, x7, x8, xf⟩ := BlkAt.c9 hb1
  go_wp2_with fail
  refine (hck wa).mono ?_
  rintro ed w1 ⟨rfl, f1⟩
  have F1 := f0.then' f1
  replace hb0 := hb0.fr f1 id
  replace hb1 := hb1.fr f1 id
  replace hb2 := hb2.fr f1 id
  clear x0 x1 x2 x3 x4 x5 x6 x7 x8 xf hck f1 f0
  by_cases hcv : cv = 0
  · rw [if_neg (by omega)] at HV
    subst hcv
    go_wp2_with fail
    apply wp_region_calm (R := Fr noB) (C := fun _ w' => Fr noB w1 w') [false, false, false, false, false, false]
      [eqv _, eqv _, eqv _, eqv _, eqv _, eqv _]
      (by kernel_rfl) (by kernel_rfl) (fun _ _ _ h1 h2 => h1.then' h2) ((Fr.refl _ _).drew) ((Fr.refl _ _).drew) (by kernel_rfl)
    · refine ⟨?_, ?_, ?_, ?_, ?_, ?_, trivial⟩
      · rw [if_neg (by decide)]; intro kq
        intro a W K hC hd hK
        have d3 : a.tmps[3]?.getD undef = .pointer (some ⟨w.heap.size + 1, 0, none⟩) := hd 3 (by decide)
        refine wpOp_plain rfl rfl ?_
        obtain ⟨x0, x1, x2, x3, x4, x5, x6, x7, x8, xf⟩ := BlkAt.c9 (hb1.fr hC id)
        obtain ⟨y0, y1, yf⟩ := BlkAt.c2 (hb0.fr hC id)
        go_wp2_with fail
        exact hK _ _ (Fr.refl _ _) hC rfl
      · rw [if_neg (by decide)]; intro kq
        intro a W K hC hd hK
        have d13 : _ = _ := hd 13 (by decide)
        refine wpOp_plain rfl rfl ?_
        obtain ⟨x0, x1, x2, x3, x4, x5, x6, x7, x8, xf⟩ := BlkAt.c9 (hb1.fr hC id)
        obtain ⟨y0, y1, yf⟩ := BlkAt.c2 (hb0.fr hC id)
        go_wp2_with fail
        exact hK _ _ (Fr.refl _ _) hC rfl
      · rw [if_neg (by decide)]; intro kq
        intro a W K hC hd hK
        have d2 : a.tmps[2]?.getD undef = .pointer (some ⟨w.heap.size, 0, none⟩) := hd 2 (by decide)
        refine wpOp_plain rfl rfl ?_
        obtain ⟨x0, x1, x2, x3, x4, x5, x6, x7, x8, xf⟩ := BlkAt.c9 (hb1.fr hC id)
        obtain ⟨y0, y1, yf⟩ := BlkAt.c2 (hb0.fr hC id)
        go_wp2_with fail
        exact hK _ _ (Fr.refl _ _) hC rfl
      · rw [if_neg (by decide)]; intro kq
        intro a W K hC hd hK
        have d15 : _ = _ := hd 15 (by decide)
        refine wpOp_plain rfl rfl ?_
        obtain ⟨x0, x1, x2, x3, x4, x5, x6, x7, x8, xf⟩ := BlkAt.c9 (hb1.fr hC id)
        obtain ⟨y0, y1, yf⟩ := BlkAt.c2 (hb0.fr hC id)
        go_wp2_with fail
        refine (hla W).mono ?_
        rintro e9 w9 ⟨rfl, f9⟩
        rw [hcl]
        exact hK _ _ f9 (hC.then' f9) rfl
      · rw [if_neg (by decide)]; intro kq
        intro a W K hC hd hK
        have d16 : _ = _ := hd 16 (by decide)
        refine wpOp_plain rfl rfl ?_
        go_wp2_with fail
        exact hK _ _ (Fr.refl _ _) hC rfl
      · rw [if_neg (by decide)]; intro kq
        intro a W K hC hd hK
        have d14 : _ = _ := hd 14 (by decide)
        have d17 : _ = _ := hd 17 (by decide)
        refine wpOp_plain rfl rfl ?_
        go_wp2_with fail
        exact hK _ _ (Fr.refl _ _) hC rfl
    · intro vs w2 fw2 cw2 hV
      have v13 : vs 0 = _ := hV 0 _ _ rfl rfl (by decide)
      have v14 : vs 1 = _ := hV 1 _ _ rfl rfl (by decide)
      have v15 : vs 2 = _ := hV 2 _ _ rfl rfl (by decide)
      have v16 : vs 3 = _ := hV 3 _ _ rfl rfl (by decide)
      have v17 : vs 4 = _ := hV 4 _ _ rfl rfl (by decide)
      have v18 : vs 5 = _ := hV 5 _ _ rfl rfl (by decide)
      clear hV
      simp only [putL, Act.put, Nat.reduceAdd, List.setIfInBounds_toArray, List.set_cons_zero, List.set_cons_succ, v13, v14, v15, v16, v17, v18]
      have F2 := F1.then' fw2
      replace hb0 := hb0.fr fw2 id
      replace hb1 := hb1.fr fw2 id
      replace hb2 := hb2.fr fw2 id
      clear F1 fw2 cw2 hla
      obtain ⟨x0, x1, xf⟩ := BlkAt.c2 hb0
      obtain ⟨y0, y1, yf⟩ := BlkAt.c2 hb2
      cases c2 with
      | true =>
        rw [if_pos (hd2.out.1 rfl)] at HV
        go_wp2_with fail
        have hr := hr.out
        have FF := F2.trans (hfs w2 (.int .u64 b) (.slice A n c)) (fun i hi h => by unfold eqB at h; omega)
        exact bodyPost_ret (v := .tuple #[.agg #[.int .u64 b, .slice A n c], .int .i64 12]) (by simp [results, hr, go_sem, y0, y1]) rfl (by rw [HV.out]; exact ⟨A, n, c, rfl, h.fr0 FF, Or.inl rfl, FF⟩)
      | false =>
        rw [if_neg (fun h => by have := hd2.out.2 h; cases this)] at HV
        by_cases h16 : 16 ≤ n
        · rw [if_pos h16] at HV
          have d16 : decide ((16 : Int) ≤ n) = true := decide_eq_true (by omega)
          clear h16
          go_wp2_with fail
          have hr := hr.out
          have FF := F2.trans (hfs w2 (.int .u64 b) (.slice A n c)) (fun i hi h => by unfold eqB at h; omega)
          exact bodyPost_ret (v := .tuple #[.agg #[.int .u64 b, .slice A n c], .int .i64 7]) (by simp [results, hr, go_sem, y0, y1]) rfl (by rw [HV.out]; exact ⟨A, n, c, rfl, h.fr0 FF, Or.inl rfl, FF⟩)
        · rw [if_neg h16] at HV
          have d16 : decide ((16 : Int) ≤ n) = false := decide_eq_false (by omega)
          have hs2 := F2.size
          have hx2 := h.row.fr0 F2
          have hlt0 := hb0.lt
          have hlt1 := hb1.lt
          have hlt2 := hb2.lt
          generalize es.flatMap EnV.C = xs at *
          go_wp2_with fail
          clear x0 x1 xf y0 y1 yf
          apply H.wp_region_calmL (R := Fr (orB (upB w2.heap.size) w.heap.size)) (C := fun q ν W => Fr (orB (upB w2.heap.size) w.heap.size) w2 W ∧ AppRC w2.heap.size w.heap.size (w.heap.size + 1) b n c A xs [.int .u64 op, .int .u64 view, .int .u8 cl, .int .u64 num, .int .u8 k, .string oa, .string ob, .int .u8 on, .int .u8 or] q (ν 25) (ν 28) (ν 30) (ν 31) W) [false, false, true, true, false, false, true, false, true] [0, 0, 0, 1, 0, 0, 2, 3, 3]
            [SlS _, eqv _, eqv (.slice A n c), anyv, eqv _, SlS _, anyv, eqv _, anyv]
            (by kernel_rfl) (by kernel_rfl) (fun _ _ _ h1 h2 => h1.then' h2) ((Fr.refl _ _).drew) ⟨(Fr.refl _ _).drew, hb1, fun _ => hx2, fun _ => hb0, fun k => by omega, fun _ => Or.inl rfl, fun k => by omega, fun k => by omega, fun _ => Or.inl rfl⟩ (by kernel_rfl)
          · refine ⟨?_, ?_, ?_, ?_, ?_, ?_, ?_, ?_, ?_, trivial⟩
            · rw [if_neg (by decide)]; intro kq
              intro a W K hC hd hK
              refine wpOp_plain rfl rfl ?_
              go_wp2_with fail
              have fn := (Fr.refl (orB (upB w2.heap.size) w.heap.size) W).alloc (.cells #[] 90)
              exact hK _ _ fn ⟨hC.1.then' fn, hC.2.p25 hC.1.size⟩ ⟨_, _, _, rfl⟩
            · rw [if_neg (by decide)]; intro kq
              intro a W K hC hd hK
              have d2 : a.tmps[2]?.getD undef = .pointer (some ⟨w.heap.size, 0, none⟩) := hd 2 (by decide)
              refine wpOp_plain rfl rfl ?_
              obtain ⟨y0, y1, y2, y3, y4, y5, y6, y7, y8, yf⟩ := BlkAt.c9 hC.2.ent
              go_wp2_with fail
              exact hK _ _ (Fr.refl _ _) hC rfl
            · rw [if_pos (by decide)]
              intro a W K hC hd hK
              replace hC : (fun q ν W => Fr (orB (upB w2.heap.size) w.heap.size) w2 W ∧ AppRC w2.heap.size w.heap.size (w.heap.size + 1) b n c A xs [.int .u64 op, .int .u64 view, .int .u8 cl, .int .u64 num, .int .u8 k, .string oa, .string ob, .int .u8 on, .int .u8 or] q (ν 25) (ν 28) (ν 30) (ν 31) W) 0 (fun t => a.eval (.tmp t)) W := hC
              have d26 : _ = _ := hd 26 (by decide)
              refine wpOp_plain rfl rfl ?_
              obtain ⟨y0, y1, y2, y3, y4, y5, y6, y7, y8, yf⟩ := BlkAt.c9 hC.2.ent
              obtain ⟨x0, x1, xf⟩ := BlkAt.c2 (hC.2.log (by omega))
              go_wp2_with fail
              exact hK _ _ (Fr.refl _ _) ⟨hC.1, hC.2.s01⟩ rfl
            · rw [if_pos (by decide)]
              intro a W K hC hd hK
              replace hC : (fun q ν W => Fr (orB (upB w2.heap.size) w.heap.size) w2 W ∧ AppRC w2.heap.size w.heap.size (w.heap.size + 1) b n c A xs [.int .u64 op, .int .u64 view, .int .u8 cl, .int .u64 num, .int .u8 k, .string oa, .string ob, .int .u8 on, .int .u8 or] q (ν 25) (ν 28) (ν 30) (ν 31) W) 1 (fun t => a.eval (.tmp t)) W := hC
              have d25 : (SlS _).V (a.tmps[25]?.getD undef) W := hd 25 (by decide)
              have d27 : a.tmps[27]?.getD undef = .slice A n c := hd 27 (by decide)
              refine wpOp_plain rfl rfl ?_
              obtain ⟨y0, y1, y2, y3, y4, y5, y6, y7, y8, yf⟩ := BlkAt.c9 hC.2.ent
              obtain ⟨g9, n9, c9, d25⟩ := d25
              have hev : a.eval (.tmp 25) = .slice (some ⟨g9, 0, none⟩) n9 c9 := by rw [eval_get]; exact d25
              obtain ⟨g8, e8, o8⟩ := sl_undef (hC.2.e25 (by omega)) hev
              have hb8 : ∀ g, (a.eval (.tmp 25)).ownBlock = some g → w2.heap.size ≤ g := fun g hg => (o8.lt g hg).1
              refine op_app_any Tryd.appER (.tmp 25) (.tmp 27) rfl _ 0 [] rfl (own_mono o8 (fun _ _ => Nat.zero_le _)) A n c xs (by rw [eval_get]; exact d27) hlenx (hC.2.old (by omega)) hone' hnil (by omega) (by omega) ?_
              intro A9 c8 w9 ho9 hg9 hat9
              rw [Nat.zero_add] at ho9 hat9
              rw [List.nil_append] at ho9
              have fg : Fr (orB (upB w2.heap.size) w.heap.size) W w9 := (Fr.refl _ W).grown hg9 (fun k hk => Or.inl (Or.inl (hb8 k hk)))
              have hq := hC.2.s12 hC.1.size (by omega) (by omega) hb8 ho9 hg9 hat9
              simp only [Nat.zero_add]
              exact hK _ _ fg ⟨hC.1.then' fg, hq⟩ trivial
            · rw [if_neg (by decide)]; intro kq
              intro a W K hC hd hK
              have d3 : a.tmps[3]?.getD undef = .pointer (some ⟨w.heap.size + 1, 0, none⟩) := hd 3 (by decide)
              refine wpOp_plain rfl rfl ?_
              obtain ⟨y0, y1, y2, y3, y4, y5, y6, y7, y8, yf⟩ := BlkAt.c9 hC.2.ent
              go_wp2_with fail
              exact hK _ _ (Fr.refl _ _) hC rfl
            · rw [if_neg (by decide)]; intro kq
              intro a W K hC hd hK
              have d29 : _ = _ := hd 29 (by decide)
              refine wpOp_plain rfl rfl ?_
              go_wp2_with fail
              have fn := (Fr.refl (orB (upB w2.heap.size) w.heap.size) W).alloc (.cells #[.int .u64 op, .int .u64 view, .int .u8 cl, .int .u64 num, .int .u8 k, .string oa, .string ob, .int .u8 on, .int .u8 or] 90)
              exact hK _ _ fn ⟨hC.1.then' fn, hC.2.p30 hC.1.size⟩ ⟨_, _, _, rfl⟩
            · rw [if_pos (by decide)]
              intro a W K hC hd hK
              replace hC : (fun q ν W => Fr (orB (upB w2.heap.size) w.heap.size) w2 W ∧ AppRC w2.heap.size w.heap.size (w.heap.size + 1) b n c A xs [.int .u64 op, .int .u64 view, .int .u8 cl, .int .u64 num, .int .u8 k, .string oa, .string ob, .int .u8 on, .int .u8 or] q (ν 25) (ν 28) (ν 30) (ν 31) W) 2 (fun t => a.eval (.tmp t)) W := hC
              have d28 : (anyv).V (a.tmps[28]?.getD undef) W := hd 28 (by decide)
              have d30 : (SlS _).V (a.tmps[30]?.getD undef) W := hd 30 (by decide)
              refine wpOp_plain rfl rfl ?_
              obtain ⟨y0, y1, y2, y3, y4, y5, y6, y7, y8, yf⟩ := BlkAt.c9 hC.2.ent
              obtain ⟨g9, n9, c9, d30⟩ := d30
              have hev : a.eval (.tmp 30) = .slice (some ⟨g9, 0, none⟩) n9 c9 := by rw [eval_get]; exact d30
              obtain ⟨g8, e8, r8, _, _, _⟩ := sl_undef (hC.2.e30 (by omega)) hev
              obtain ⟨B7, d7, e7, o7⟩ := hC.2.e28 rfl
              have hb8 : ∀ g, (a.eval (.tmp 28)).ownBlock = some g → w2.heap.size ≤ g := fun g hg => (o7.lt g hg).1
              refine op_app_any Tryd.appER (.tmp 28) (.tmp 30) rfl _ n xs rfl (own_mono o7 (fun _ _ => Nat.zero_le _)) (some ⟨g8, 0, none⟩) 1 1 [.int .u64 op, .int .u64 view, .int .u8 cl, .int .u64 num, .int .u8 k, .string oa, .string ob, .int .u8 on, .int .u8 or] e8 rfl r8 hone (by simp) (by omega) (by omega) ?_
              intro A9 c8 w9 ho9 hg9 hat9
              have fg : Fr (orB (upB w2.heap.size) w.heap.size) W w9 := (Fr.refl _ W).grown hg9 (fun k hk => Or.inl (Or.inl (hb8 k hk)))
              have hq := hC.2.s23 hC.1.size (by omega) (by omega) hb8 ho9 hg9 hat9
              exact hK _ _ fg ⟨hC.1.then' fg, hq⟩ trivial
            · rw [if_neg (by decide)]; intro kq
              intro a W K hC hd hK
              have d2 : a.tmps[2]?.getD undef = .pointer (some ⟨w.heap.size, 0, none⟩) := hd 2 (by decide)
              refine wpOp_plain rfl rfl ?_
              obtain ⟨y0, y1, y2, y3, y4, y5, y6, y7, y8, yf⟩ := BlkAt.c9 hC.2.ent
              go_wp2_with fail
              exact hK _ _ (Fr.refl _ _) hC rfl
            · rw [if_pos (by decide)]
              intro a W K hC hd hK
              replace hC : (fun q ν W => Fr (orB (upB w2.heap.size) w.heap.size) w2 W ∧ AppRC w2.heap.size w.heap.size (w.heap.size + 1) b n c A xs [.int .u64 op, .int .u64 view, .int .u8 cl, .int .u64 num, .int .u8 k, .string oa, .string ob, .int .u8 on, .int .u8 or] q (ν 25) (ν 28) (ν 30) (ν 31) W) 3 (fun t => a.eval (.tmp t)) W := hC
              have d32 : _ = _ := hd 32 (by decide)
              have d31 : (anyv).V (a.tmps[31]?.getD undef) W := hd 31 (by decide)
              refine wpOp_plain rfl rfl ?_
              obtain ⟨y0, y1, y2, y3, y4, y5, y6, y7, y8, yf⟩ := BlkAt.c9 hC.2.ent
              obtain ⟨B7, d7, e7, o7⟩ := hC.2.e31 rfl
              have d31' : a.tmps[31]?.getD undef = .slice B7 (n + 1) d7 := by rw [← eval_get]; exact e7
              obtain ⟨x0, x1, xf⟩ := BlkAt.c2 (hC.2.log (by omega))
              have fs := (fr_set1 W w.heap.size 1 (.slice B7 (n + 1) d7)).mono (T := orB (upB w2.heap.size) w.heap.size) (fun _ _ h => Or.inr h)
              have hq := hC.2.s34 e7 (by omega) (by omega)
              go_wp2_with fail
              exact hK undef _ fs ⟨hC.1.then' fs, hq⟩ trivial
          · intro vs w8 fw8 cw8 hV
            have v25 : (SlS _).V (vs 0) w8 := hV 0 _ _ rfl rfl (by decide)
            have v26 : vs 1 = _ := hV 1 _ _ rfl rfl (by decide)
            have v27 : vs 2 = .slice A n c := hV 2 _ _ rfl rfl (by decide)
            have v28 : (anyv).V (vs 3) w8 := hV 3 _ _ rfl rfl (by decide)
            have v29 : vs 4 = _ := hV 4 _ _ rfl rfl (by decide)
            have v30 : (SlS _).V (vs 5) w8 := hV 5 _ _ rfl rfl (by decide)
            have v31 : (anyv).V (vs 6) w8 := hV 6 _ _ rfl rfl (by decide)
            have v32 : vs 7 = _ := hV 7 _ _ rfl rfl (by decide)
            clear hV
            simp only [putL, Act.put, Nat.reduceAdd, List.setIfInBounds_toArray, List.set_cons_zero, List.set_cons_succ, v26, v27, v29, v32]
            obtain ⟨B9, d9, hb9, ho9⟩ := cw8.2.done (by decide)
            have hb28 := hb2.fr fw8 (fun h => by rcases h with h | h; unfold upB at h; omega; omega)
            have F8 := F2.trans fw8 (fun i hi h => by rcases h with h | h; unfold upB at h; omega; omega)
            clear cw8
            obtain ⟨x0, x1, xf⟩ := BlkAt.c2 hb9
            obtain ⟨y0, y1, yf⟩ := BlkAt.c2 hb28
            go_wp2_with fail
            have hr := hr.out
            have FF := F8.trans (hfs w8 (.int .u64 b) (.slice B9 (n + 1) d9)) (fun i hi h => by unfold eqB at h; omega)
            have hO := own_fr ho9 (hfs w8 (.int .u64 b) (.slice B9 (n + 1) d9)) (fun g hg h => by have := (ho9.lt g hg).1; unfold eqB at h; omega)
            have e9 : xs ++ [.int .u64 op, .int .u64 view, .int .u8 cl, .int .u64 num, .int .u8 k, .string oa, .string ob, .int .u8 on, .int .u8 or] = List.flatMap EnV.C es1 := hfl1.out.symm
            rw [e9] at hO
            exact bodyPost_ret (v := .tuple #[.agg #[.int .u64 b, .slice B9 (n + 1) d9], .int .i64 0]) (by simp [results, hr, go_sem, y0, y1]) rfl (by rw [HV.out]; exact ⟨B9, n + 1, d9, rfl, RefA.of_own hsn hO, Placed.of_own (w := w2) hO F2.size, FF⟩)
  · rw [if_pos hcv] at HV
    have t1 : ((cv : Int) != 0) = true := by rw [bne_iff_ne]; omega
    obtain ⟨x0, x1, xf⟩ := BlkAt.c2 hb0
    obtain ⟨y0, y1, yf⟩ := BlkAt.c2 hb2
    clear hcv
    go_wp2_with fail
    have hr := hr.out
    have FF := F1.trans (hfs w1 (.int .u64 b) (.slice A n c)) (fun i hi h => by unfold eqB at h; omega)
    exact bodyPost_ret (v := .tuple #[.agg #[.int .u64 b, .slice A n c], .int .i64 cv]) (by simp [results, hr, go_sem, y0, y1]) rfl (by rw [HV.out]; exact ⟨A, n, c, rfl, h.fr0 FF, Or.inl rfl, FF⟩)
end Go.Proofs.YtcaihinenfnekaaDoor
/- interrexlaw20.Same; log.Copy. -/
namespace Go.Proofs.YtcaihinenfnekaaDoor
open Go.RowKit

set_option maxRecDepth 100000 in
set_option maxHeartbeats 3200000 in
theorem same20_calls (w : World) (U : Nat → Prop) (p b n c : Nat) (A : Option Addr) (es : List EnV) (h : LogA w U p b es) (hG : GoodL b es) (hR : RefA w A n c es) :
    Calls Tryd.prog 32 #[.pointer (some ⟨p, 0, none⟩), .agg #[.int .u64 b, .slice A n c]] w (BoolPost w true) := by
  have HN := hR.len
  have hll := hG.last
  have hbb := hG.base
  have hw16 := hG.few
  have HLA : Hid (lastL b es = b + n) := by unfold Hid lastL; rw [HN.out]
  have hba := fun W h => baseL_calls W U p b es h
  have hla := fun W h => lastL_calls W U p b es h (by omega)
  have hlr := fun W => lastR_calls W b n c A (by have := HLA.out; omega)
  have hle := fun W h => lenL_calls W U p b es h
  have hfu := fun W h => fullL_calls W U p b es h
  have hfr := fun W h => fromL_calls W U p b 0 es h hG (by decide)
  rw [fromL_zero] at hfr
  rw [HLA.out] at hla
  rw [HN.out] at hle hfu hw16
  have hsm := fun W A1 n1 c1 (h1 : RefA W A1 n1 c1 es) (h2 : RefA W A n c es) => same19_calls W A1 A n1 c1 n c es es h1 h2 (by rw [← h1.len.out, HN.out]; omega) (by omega) rfl
  obtain ⟨v, hv⟩ : ∃ v, decide (16 ≤ n) = v := ⟨_, rfl⟩
  have hv2 : ((n : Int) == 16) = v := by
    rw [← hv]
    by_cases h : n = 16
    · subst h; rfl
    · rw [beq_eq_false_iff_ne.2 (by omega), decide_eq_false (by omega)]
  rw [hv] at hfu
  have hcl : ((b + n : Nat) : Int) = (b : Int) + n := by omega
  rw [hcl] at hla hlr
  have hb0 : BlkAt (w.alloc (.cells #[.int .u64 b, .slice A n c] 54)) w.heap.size 54 #[.int .u64 b, .slice A n c] := BlkAt.new _ _ _
  have f0 : Fr noB w (w.alloc (.cells #[.int .u64 b, .slice A n c] 54)) := (Fr.refl noB w).alloc _
  clear hG HLA hv
  go_enter Tryd.func32, Tryd.ntmps32
  go_upto_region 1 with fail
  generalize (w.alloc (.cells #[.int .u64 b, .slice A n c] 54)) = wa at *
  apply wp_region_calm (R := Fr noB) (C := fun _ w' => Fr noB wa w') [false, false, false, false, false, false, false, false, false, false, false, false, false, false, false, false, false, false, false, false, false, false, false, false, false, false, false, false, false, false, false, false, false, false, false, false, false]
    [eqv _, eqv _, eqv _, eqv _, eqv (.bool true), eqv (.bool true), eqv _, eqv (.int .u64 ((b : Int) + n)), eqv _, eqv (.int .u64 ((b : Int) + n)), eqv (.bool true), eqv (.bool true), eqv (.bool true), eqv _, eqv (.int .i64 n), eqv _, eqv _, eqv (.int .i64 n), eqv (.bool true), eqv (.bool true), eqv (.bool true), eqv _, eqv (.bool v), eqv _, eqv _, eqv (.int .i64 n), eqv (.bool v), eqv (.bool true), eqv (.bool true), eqv (.bool true), eqv _, OwnE w.heap.size noB (fun _ _ h => h) es, eqv _, eqv _, eqv (.bool true), eqv (.bool true), eqv (.bool true)]
    (by kernel_rfl) (by kernel_rfl) (fun _ _ _ h1 h2 => h1.then' h2) ((Fr.refl _ _).drew) ((Fr.refl _ _).drew) (by kernel_rfl)
  · refine ⟨?_, ?_, ?_, ?_, ?_, ?_, ?_, ?_, ?_, ?_, ?_, ?_, ?_, ?_, ?_, ?_, ?_, ?_, ?_, ?_, ?_, ?_, ?_, ?_, ?_, ?_, ?_, ?_, ?_, ?_, ?_, ?_, ?_, ?_, ?_, ?_, ?_, trivial⟩
    · rw [if_neg (by decide)]; intro kq
      exact calm_mv 0 rfl rfl (Or.inl rfl) (Fr.refl _) (by decide) fun v w hd => hd
    · rw [if_neg (by decide)]; intro kq
      intro a W K hC hd hK
      have d5 : _ = _ := hd 5 (by decide)
      refine wpOp_plain rfl rfl ?_
      obtain ⟨x0, x1, xf⟩ := BlkAt.c2 (hb0.fr hC id)
      go_wp2_with fail
      refine (hba W (h.fr0 (f0.then' hC))).mono ?_
      rintro e9 w9 ⟨rfl, f9⟩
      exact hK _ _ f9 (hC.then' f9) rfl
    · rw [if_neg (by decide)]; intro kq
      intro a W K hC hd hK
      have d3 : a.tmps[3]?.getD undef = .pointer (some ⟨w.heap.size, 0, none⟩) := hd 3 (by decide)
      refine wpOp_plain rfl rfl ?_
      obtain ⟨x0, x1, xf⟩ := BlkAt.c2 (hb0.fr hC id)
      go_wp2_with fail
      exact hK _ _ (Fr.refl _ _) hC rfl
    · rw [if_neg (by decide)]; intro kq
      intro a W K hC hd hK
      have d7 : _ = _ := hd 7 (by decide)
      refine wpOp_plain rfl rfl ?_
      obtain ⟨x0, x1, xf⟩ := BlkAt.c2 (hb0.fr hC id)
      go_wp2_with fail
      exact hK _ _ (Fr.refl _ _) hC rfl
    · rw [if_neg (by decide)]; intro kq
      intro a W K hC hd hK
      have d6 : _ = _ := hd 6 (by decide)
      have d8 : _ = _ := hd 8 (by decide)
      refine wpOp_plain rfl rfl ?_
      go_wp2_with fail
      exact hK _ _ (Fr.refl _ _) hC rfl
    · rw [if_neg (by decide)]; intro kq
      exact calm_mv 9 rfl rfl (Or.inl rfl) (Fr.refl _) (by decide) fun v w hd => hd
    · rw [if_neg (by decide)]; intro kq
      intro a W K hC hd hK
      have d0 : a.tmps[0]?.getD undef = .pointer (some ⟨p, 0, none⟩) := hd 0 (by decide)
      have d10 : a.tmps[10]?.getD undef = .bool true := hd 10 (by decide)
      first | (exact wpOp_skip rfl (wanted_of (want := true) (b := false) rfl rfl (by rw [eval_get]; exact d10)) (hK _ _ (Fr.refl _ _) hC rfl)) | (refine wpOp_want rfl (wanted_of (want := true) (b := true) rfl rfl (by rw [eval_get]; exact d10)) ?_)
      all_goals (
        go_wp2_with fail
        exact hK _ _ (Fr.refl _ _) hC rfl)
    · rw [if_neg (by decide)]; intro kq
      intro a W K hC hd hK
      have d11 : _ = _ := hd 11 (by decide)
      have d10 : a.tmps[10]?.getD undef = .bool true := hd 10 (by decide)
      first | (exact wpOp_skip rfl (wanted_of (want := true) (b := false) rfl rfl (by rw [eval_get]; exact d10)) (hK _ _ (Fr.refl _ _) hC rfl)) | (refine wpOp_want rfl (wanted_of (want := true) (b := true) rfl rfl (by rw [eval_get]; exact d10)) ?_)
      all_goals (
        obtain ⟨x0, x1, xf⟩ := BlkAt.c2 (hb0.fr hC id)
        go_wp2_with fail
        refine (hla W (h.fr0 (f0.then' hC))).mono ?_
        rintro e9 w9 ⟨rfl, f9⟩
        exact hK _ _ f9 (hC.then' f9) rfl)
    · rw [if_neg (by decide)]; intro kq
      intro a W K hC hd hK
      have d3 : a.tmps[3]?.getD undef = .pointer (some ⟨w.heap.size, 0, none⟩) := hd 3 (by decide)
      have d10 : a.tmps[10]?.getD undef = .bool true := hd 10 (by decide)
      first | (exact wpOp_skip rfl (wanted_of (want := true) (b := false) rfl rfl (by rw [eval_get]; exact d10)) (hK _ _ (Fr.refl _ _) hC rfl)) | (refine wpOp_want rfl (wanted_of (want := true) (b := true) rfl rfl (by rw [eval_get]; exact d10)) ?_)
      all_goals (
        obtain ⟨x0, x1, xf⟩ := BlkAt.c2 (hb0.fr hC id)
        go_wp2_with fail
        exact hK _ _ (Fr.refl _ _) hC rfl)
    · rw [if_neg (by decide)]; intro kq
      intro a W K hC hd hK
      have d13 : _ = _ := hd 13 (by decide)
      have d10 : a.tmps[10]?.getD undef = .bool true := hd 10 (by decide)
      first | (exact wpOp_skip rfl (wanted_of (want := true) (b := false) rfl rfl (by rw [eval_get]; exact d10)) (hK _ _ (Fr.refl _ _) hC rfl)) | (refine wpOp_want rfl (wanted_of (want := true) (b := true) rfl rfl (by rw [eval_get]; exact d10)) ?_)
      all_goals (
        obtain ⟨x0, x1, xf⟩ := BlkAt.c2 (hb0.fr hC id)
        go_wp2_with fail
        refine (hlr W).mono ?_
        rintro e9 w9 ⟨rfl, f9⟩
        exact hK _ _ f9 (hC.then' f9) rfl)
    · rw [if_neg (by decide)]; intro kq
      intro a W K hC hd hK
      have d12 : a.tmps[12]?.getD undef = .int .u64 ((b : Int) + n) := hd 12 (by decide)
      have d14 : a.tmps[14]?.getD undef = .int .u64 ((b : Int) + n) := hd 14 (by decide)
      have d10 : a.tmps[10]?.getD undef = .bool true := hd 10 (by decide)
      first | (exact wpOp_skip rfl (wanted_of (want := true) (b := false) rfl rfl (by rw [eval_get]; exact d10)) (hK _ _ (Fr.refl _ _) hC rfl)) | (refine wpOp_want rfl (wanted_of (want := true) (b := true) rfl rfl (by rw [eval_get]; exact d10)) ?_)
      all_goals (
        go_wp2_with fail
        exact hK _ _ (Fr.refl _ _) hC rfl)
    · rw [if_neg (by decide)]; intro kq
      intro a W K hC hd hK
      have d10 : a.tmps[10]?.getD undef = .bool true := hd 10 (by decide)
      have d15 : a.tmps[15]?.getD undef = .bool true := hd 15 (by decide)
      refine wpOp_plain rfl rfl ?_
      go_wp2_with fail
      exact hK _ _ (Fr.refl _ _) hC rfl
    · rw [if_neg (by decide)]; intro kq
      exact calm_mv 16 rfl rfl (Or.inl rfl) (Fr.refl _) (by decide) fun v w hd => hd
    · rw [if_neg (by decide)]; intro kq
      intro a W K hC hd hK
      have d0 : a.tmps[0]?.getD undef = .pointer (some ⟨p, 0, none⟩) := hd 0 (by decide)
      have d17 : a.tmps[17]?.getD undef = .bool true := hd 17 (by decide)
      first | (exact wpOp_skip rfl (wanted_of (want := true) (b := false) rfl rfl (by rw [eval_get]; exact d17)) (hK _ _ (Fr.refl _ _) hC rfl)) | (refine wpOp_want rfl (wanted_of (want := true) (b := true) rfl rfl (by rw [eval_get]; exact d17)) ?_)
      all_goals (
        go_wp2_with fail
        exact hK _ _ (Fr.refl _ _) hC rfl)
    · rw [if_neg (by decide)]; intro kq
      intro a W K hC hd hK
      have d18 : _ = _ := hd 18 (by decide)
      have d17 : a.tmps[17]?.getD undef = .bool true := hd 17 (by decide)
      first | (exact wpOp_skip rfl (wanted_of (want := true) (b := false) rfl rfl (by rw [eval_get]; exact d17)) (hK _ _ (Fr.refl _ _) hC rfl)) | (refine wpOp_want rfl (wanted_of (want := true) (b := true) rfl rfl (by rw [eval_get]; exact d17)) ?_)
      all_goals (
        obtain ⟨x0, x1, xf⟩ := BlkAt.c2 (hb0.fr hC id)
        go_wp2_with fail
        refine (hle W (h.fr0 (f0.then' hC))).mono ?_
        rintro e9 w9 ⟨rfl, f9⟩
        exact hK _ _ f9 (hC.then' f9) rfl)
    · rw [if_neg (by decide)]; intro kq
      intro a W K hC hd hK
      have d3 : a.tmps[3]?.getD undef = .pointer (some ⟨w.heap.size, 0, none⟩) := hd 3 (by decide)
      have d17 : a.tmps[17]?.getD undef = .bool true := hd 17 (by decide)
      first | (exact wpOp_skip rfl (wanted_of (want := true) (b := false) rfl rfl (by rw [eval_get]; exact d17)) (hK _ _ (Fr.refl _ _) hC rfl)) | (refine wpOp_want rfl (wanted_of (want := true) (b := true) rfl rfl (by rw [eval_get]; exact d17)) ?_)
      all_goals (
        obtain ⟨x0, x1, xf⟩ := BlkAt.c2 (hb0.fr hC id)
        go_wp2_with fail
        exact hK _ _ (Fr.refl _ _) hC rfl)
    · rw [if_neg (by decide)]; intro kq
      intro a W K hC hd hK
      have d20 : _ = _ := hd 20 (by decide)
      have d17 : a.tmps[17]?.getD undef = .bool true := hd 17 (by decide)
      first | (exact wpOp_skip rfl (wanted_of (want := true) (b := false) rfl rfl (by rw [eval_get]; exact d17)) (hK _ _ (Fr.refl _ _) hC rfl)) | (refine wpOp_want rfl (wanted_of (want := true) (b := true) rfl rfl (by rw [eval_get]; exact d17)) ?_)
      all_goals (
        obtain ⟨x0, x1, xf⟩ := BlkAt.c2 (hb0.fr hC id)
        go_wp2_with fail
        exact hK _ _ (Fr.refl _ _) hC rfl)
    · rw [if_neg (by decide)]; intro kq
      intro a W K hC hd hK
      have d21 : _ = _ := hd 21 (by decide)
      have d17 : a.tmps[17]?.getD undef = .bool true := hd 17 (by decide)
      first | (exact wpOp_skip rfl (wanted_of (want := true) (b := false) rfl rfl (by rw [eval_get]; exact d17)) (hK _ _ (Fr.refl _ _) hC rfl)) | (refine wpOp_want rfl (wanted_of (want := true) (b := true) rfl rfl (by rw [eval_get]; exact d17)) ?_)
      all_goals (
        obtain ⟨x0, x1, xf⟩ := BlkAt.c2 (hb0.fr hC id)
        go_wp2_with fail
        exact hK _ _ (Fr.refl _ _) hC rfl)
    · rw [if_neg (by decide)]; intro kq
      intro a W K hC hd hK
      have d19 : a.tmps[19]?.getD undef = .int .i64 n := hd 19 (by decide)
      have d22 : a.tmps[22]?.getD undef = .int .i64 n := hd 22 (by decide)
      have d17 : a.tmps[17]?.getD undef = .bool true := hd 17 (by decide)
      first | (exact wpOp_skip rfl (wanted_of (want := true) (b := false) rfl rfl (by rw [eval_get]; exact d17)) (hK _ _ (Fr.refl _ _) hC rfl)) | (refine wpOp_want rfl (wanted_of (want := true) (b := true) rfl rfl (by rw [eval_get]; exact d17)) ?_)
      all_goals (
        go_wp2_with fail
        exact hK _ _ (Fr.refl _ _) hC rfl)
    · rw [if_neg (by decide)]; intro kq
      intro a W K hC hd hK
      have d17 : a.tmps[17]?.getD undef = .bool true := hd 17 (by decide)
      have d23 : a.tmps[23]?.getD undef = .bool true := hd 23 (by decide)
      refine wpOp_plain rfl rfl ?_
      go_wp2_with fail
      exact hK _ _ (Fr.refl _ _) hC rfl
    · rw [if_neg (by decide)]; intro kq
      exact calm_mv 24 rfl rfl (Or.inl rfl) (Fr.refl _) (by decide) fun v w hd => hd
    · rw [if_neg (by decide)]; intro kq
      intro a W K hC hd hK
      have d0 : a.tmps[0]?.getD undef = .pointer (some ⟨p, 0, none⟩) := hd 0 (by decide)
      have d25 : a.tmps[25]?.getD undef = .bool true := hd 25 (by decide)
      first | (exact wpOp_skip rfl (wanted_of (want := true) (b := false) rfl rfl (by rw [eval_get]; exact d25)) (hK _ _ (Fr.refl _ _) hC rfl)) | (refine wpOp_want rfl (wanted_of (want := true) (b := true) rfl rfl (by rw [eval_get]; exact d25)) ?_)
      all_goals (
        go_wp2_with fail
        exact hK _ _ (Fr.refl _ _) hC rfl)
    · rw [if_neg (by decide)]; intro kq
      intro a W K hC hd hK
      have d26 : _ = _ := hd 26 (by decide)
      have d25 : a.tmps[25]?.getD undef = .bool true := hd 25 (by decide)
      first | (exact wpOp_skip rfl (wanted_of (want := true) (b := false) rfl rfl (by rw [eval_get]; exact d25)) (hK _ _ (Fr.refl _ _) hC rfl)) | (refine wpOp_want rfl (wanted_of (want := true) (b := true) rfl rfl (by rw [eval_get]; exact d25)) ?_)
      all_goals (
        obtain ⟨x0, x1, xf⟩ := BlkAt.c2 (hb0.fr hC id)
        go_wp2_with fail
        refine (hfu W (h.fr0 (f0.then' hC))).mono ?_
        rintro e9 w9 ⟨rfl, f9⟩
        exact hK _ _ f9 (hC.then' f9) rfl)
    · rw [if_neg (by decide)]; intro kq
      intro a W K hC hd hK
      have d3 : a.tmps[3]?.getD undef = .pointer (some ⟨w.heap.size, 0, none⟩) := hd 3 (by decide)
      have d25 : a.tmps[25]?.getD undef = .bool true := hd 25 (by decide)
      first | (exact wpOp_skip rfl (wanted_of (want := true) (b := false) rfl rfl (by rw [eval_get]; exact d25)) (hK _ _ (Fr.refl _ _) hC rfl)) | (refine wpOp_want rfl (wanted_of (want := true) (b := true) rfl rfl (by rw [eval_get]; exact d25)) ?_)
      all_goals (
        obtain ⟨x0, x1, xf⟩ := BlkAt.c2 (hb0.fr hC id)
        go_wp2_with fail
        exact hK _ _ (Fr.refl _ _) hC rfl)
    · rw [if_neg (by decide)]; intro kq
      intro a W K hC hd hK
      have d28 : _ = _ := hd 28 (by decide)
      have d25 : a.tmps[25]?.getD undef = .bool true := hd 25 (by decide)
      first | (exact wpOp_skip rfl (wanted_of (want := true) (b := false) rfl rfl (by rw [eval_get]; exact d25)) (hK _ _ (Fr.refl _ _) hC rfl)) | (refine wpOp_want rfl (wanted_of (want := true) (b := true) rfl rfl (by rw [eval_get]; exact d25)) ?_)
      all_goals (
        obtain ⟨x0, x1, xf⟩ := BlkAt.c2 (hb0.fr hC id)
        go_wp2_with fail
        exact hK _ _ (Fr.refl _ _) hC rfl)
    · rw [if_neg (by decide)]; intro kq
      intro a W K hC hd hK
      have d29 : _ = _ := hd 29 (by decide)
      have d25 : a.tmps[25]?.getD undef = .bool true := hd 25 (by decide)
      first | (exact wpOp_skip rfl (wanted_of (want := true) (b := false) rfl rfl (by rw [eval_get]; exact d25)) (hK _ _ (Fr.refl _ _) hC rfl)) | (refine wpOp_want rfl (wanted_of (want := true) (b := true) rfl rfl (by rw [eval_get]; exact d25)) ?_)
      all_goals (
        obtain ⟨x0, x1, xf⟩ := BlkAt.c2 (hb0.fr hC id)
        go_wp2_with fail
        exact hK _ _ (Fr.refl _ _) hC rfl)
    · rw [if_neg (by decide)]; intro kq
      intro a W K hC hd hK
      have d30 : a.tmps[30]?.getD undef = .int .i64 n := hd 30 (by decide)
      have d25 : a.tmps[25]?.getD undef = .bool true := hd 25 (by decide)
      first | (exact wpOp_skip rfl (wanted_of (want := true) (b := false) rfl rfl (by rw [eval_get]; exact d25)) (hK _ _ (Fr.refl _ _) hC rfl)) | (refine wpOp_want rfl (wanted_of (want := true) (b := true) rfl rfl (by rw [eval_get]; exact d25)) ?_)
      all_goals (
        go_wp2_with fail
        exact hK _ _ (Fr.refl _ _) hC rfl)
    · rw [if_neg (by decide)]; intro kq
      intro a W K hC hd hK
      have d27 : a.tmps[27]?.getD undef = .bool v := hd 27 (by decide)
      have d31 : a.tmps[31]?.getD undef = .bool v := hd 31 (by decide)
      have d25 : a.tmps[25]?.getD undef = .bool true := hd 25 (by decide)
      first | (exact wpOp_skip rfl (wanted_of (want := true) (b := false) rfl rfl (by rw [eval_get]; exact d25)) (hK _ _ (Fr.refl _ _) hC rfl)) | (refine wpOp_want rfl (wanted_of (want := true) (b := true) rfl rfl (by rw [eval_get]; exact d25)) ?_)
      all_goals (
        go_wp2_with fail
        exact hK _ _ (Fr.refl _ _) hC rfl)
    · rw [if_neg (by decide)]; intro kq
      intro a W K hC hd hK
      have d25 : a.tmps[25]?.getD undef = .bool true := hd 25 (by decide)
      have d32 : a.tmps[32]?.getD undef = .bool true := hd 32 (by decide)
      refine wpOp_plain rfl rfl ?_
      go_wp2_with fail
      exact hK _ _ (Fr.refl _ _) hC rfl
    · rw [if_neg (by decide)]; intro kq
      exact calm_mv 33 rfl rfl (Or.inl rfl) (Fr.refl _) (by decide) fun v w hd => hd
    · rw [if_neg (by decide)]; intro kq
      intro a W K hC hd hK
      have d0 : a.tmps[0]?.getD undef = .pointer (some ⟨p, 0, none⟩) := hd 0 (by decide)
      have d34 : a.tmps[34]?.getD undef = .bool true := hd 34 (by decide)
      first | (exact wpOp_skip rfl (wanted_of (want := true) (b := false) rfl rfl (by rw [eval_get]; exact d34)) (hK _ _ (Fr.refl _ _) hC rfl)) | (refine wpOp_want rfl (wanted_of (want := true) (b := true) rfl rfl (by rw [eval_get]; exact d34)) ?_)
      all_goals (
        go_wp2_with fail
        exact hK _ _ (Fr.refl _ _) hC rfl)
    · rw [if_neg (by decide)]; intro kq
      intro a W K hC hd hK
      have d35 : _ = _ := hd 35 (by decide)
      have d34 : a.tmps[34]?.getD undef = .bool true := hd 34 (by decide)
      first | (exact wpOp_skip rfl (wanted_of (want := true) (b := false) rfl rfl (by rw [eval_get]; exact d34)) (hK _ _ (Fr.refl _ _) hC rfl)) | (refine wpOp_want rfl (wanted_of (want := true) (b := true) rfl rfl (by rw [eval_get]; exact d34)) ?_)
      all_goals (
        obtain ⟨x0, x1, xf⟩ := BlkAt.c2 (hb0.fr hC id)
        go_wp2_with fail
        refine (hfr W (h.fr0 (f0.then' hC))).mono ?_
        rintro e9 w9 ⟨A9, n9, c9, rfl, hn9, h9, f9⟩
        exact hK _ _ f9 (hC.then' f9) ⟨A9, n9, c9, rfl, hn9, own_mono h9 (fun g hg => Nat.le_trans (f0.then' hC).size (h9.lt g hg).1)⟩)
    · rw [if_neg (by decide)]; intro kq
      intro a W K hC hd hK
      have d3 : a.tmps[3]?.getD undef = .pointer (some ⟨w.heap.size, 0, none⟩) := hd 3 (by decide)
      have d34 : a.tmps[34]?.getD undef = .bool true := hd 34 (by decide)
      first | (exact wpOp_skip rfl (wanted_of (want := true) (b := false) rfl rfl (by rw [eval_get]; exact d34)) (hK _ _ (Fr.refl _ _) hC rfl)) | (refine wpOp_want rfl (wanted_of (want := true) (b := true) rfl rfl (by rw [eval_get]; exact d34)) ?_)
      all_goals (
        obtain ⟨x0, x1, xf⟩ := BlkAt.c2 (hb0.fr hC id)
        go_wp2_with fail
        exact hK _ _ (Fr.refl _ _) hC rfl)
    · rw [if_neg (by decide)]; intro kq
      intro a W K hC hd hK
      have d37 : _ = _ := hd 37 (by decide)
      have d34 : a.tmps[34]?.getD undef = .bool true := hd 34 (by decide)
      first | (exact wpOp_skip rfl (wanted_of (want := true) (b := false) rfl rfl (by rw [eval_get]; exact d34)) (hK _ _ (Fr.refl _ _) hC rfl)) | (refine wpOp_want rfl (wanted_of (want := true) (b := true) rfl rfl (by rw [eval_get]; exact d34)) ?_)
      all_goals (
        obtain ⟨x0, x1, xf⟩ := BlkAt.c2 (hb0.fr hC id)
        go_wp2_with fail
        exact hK _ _ (Fr.refl _ _) hC rfl)
    · rw [if_neg (by decide)]; intro kq
      intro a W K hC hd hK
      have d36 : (OwnE w.heap.size noB (fun _ _ h => h) es).V (a.tmps[36]?.getD undef) W := hd 36 (by decide)
      have d38 : _ = _ := hd 38 (by decide)
      have d34 : a.tmps[34]?.getD undef = .bool true := hd 34 (by decide)
      first | (exact wpOp_skip rfl (wanted_of (want := true) (b := false) rfl rfl (by rw [eval_get]; exact d34)) (hK _ _ (Fr.refl _ _) hC rfl)) | (refine wpOp_want rfl (wanted_of (want := true) (b := true) rfl rfl (by rw [eval_get]; exact d34)) ?_)
      all_goals (
        obtain ⟨x0, x1, xf⟩ := BlkAt.c2 (hb0.fr hC id)
        obtain ⟨A9, n9, c9, d36, hn9, h9⟩ := d36
        go_wp2_with fail
        refine (hsm W A9 n9 c9 (RefA.of_own hn9 h9) (hR.fr0 (f0.then' hC))).mono ?_
        rintro e9 w9 ⟨rfl, f9⟩
        exact hK _ _ f9 (hC.then' f9) rfl)
    · rw [if_neg (by decide)]; intro kq
      intro a W K hC hd hK
      have d34 : a.tmps[34]?.getD undef = .bool true := hd 34 (by decide)
      have d39 : a.tmps[39]?.getD undef = .bool true := hd 39 (by decide)
      refine wpOp_plain rfl rfl ?_
      go_wp2_with fail
      exact hK _ _ (Fr.refl _ _) hC rfl
    · rw [if_neg (by decide)]; intro kq
      exact calm_mv 40 rfl rfl (Or.inr rfl) (Fr.refl _) (by decide) fun v w hd => hd
  · intro vs w8 fw8 cw8 hV
    have v5 : vs 0 = _ := hV 0 _ _ rfl rfl (by decide)
    have v6 : vs 1 = _ := hV 1 _ _ rfl rfl (by decide)
    have v7 : vs 2 = _ := hV 2 _ _ rfl rfl (by decide)
    have v8 : vs 3 = _ := hV 3 _ _ rfl rfl (by decide)
    have v9 : vs 4 = .bool true := hV 4 _ _ rfl rfl (by decide)
    have v10 : vs 5 = .bool true := hV 5 _ _ rfl rfl (by decide)
    have v11 : vs 6 = _ := hV 6 _ _ rfl rfl (by decide)
    have v12 : vs 7 = .int .u64 ((b : Int) + n) := hV 7 _ _ rfl rfl (by decide)
    have v13 : vs 8 = _ := hV 8 _ _ rfl rfl (by decide)
    have v14 : vs 9 = .int .u64 ((b : Int) + n) := hV 9 _ _ rfl rfl (by decide)
    have v15 : vs 10 = .bool true := hV 10 _ _ rfl rfl (by decide)
    have v16 : vs 11 = .bool true := hV 11 _ _ rfl rfl (by decide)
    have v17 : vs 12 = .bool true := hV 12 _ _ rfl rfl (by decide)
    have v18 : vs 13 = _ := hV 13 _ _ rfl rfl (by decide)
    have v19 : vs 14 = .int .i64 n := hV 14 _ _ rfl rfl (by decide)
    have v20 : vs 15 = _ := hV 15 _ _ rfl rfl (by decide)
    have v21 : vs 16 = _ := hV 16 _ _ rfl rfl (by decide)
    have v22 : vs 17 = .int .i64 n := hV 17 _ _ rfl rfl (by decide)
    have v23 : vs 18 = .bool true := hV 18 _ _ rfl rfl (by decide)
    have v24 : vs 19 = .bool true := hV 19 _ _ rfl rfl (by decide)
    have v25 : vs 20 = .bool true := hV 20 _ _ rfl rfl (by decide)
    have v26 : vs 21 = _ := hV 21 _ _ rfl rfl (by decide)
    have v27 : vs 22 = .bool v := hV 22 _ _ rfl rfl (by decide)
    have v28 : vs 23 = _ := hV 23 _ _ rfl rfl (by decide)
    have v29 : vs 24 = _ := hV 24 _ _ rfl rfl (by decide)
    have v30 : vs 25 = .int .i64 n := hV 25 _ _ rfl rfl (by decide)
    have v31 : vs 26 = .bool v := hV 26 _ _ rfl rfl (by decide)
    have v32 : vs 27 = .bool true := hV 27 _ _ rfl rfl (by decide)
    have v33 : vs 28 = .bool true := hV 28 _ _ rfl rfl (by decide)
    have v34 : vs 29 = .bool true := hV 29 _ _ rfl rfl (by decide)
    have v35 : vs 30 = _ := hV 30 _ _ rfl rfl (by decide)
    have v36 : (OwnE w.heap.size noB (fun _ _ h => h) es).V (vs 31) w8 := hV 31 _ _ rfl rfl (by decide)
    have v37 : vs 32 = _ := hV 32 _ _ rfl rfl (by decide)
    have v38 : vs 33 = _ := hV 33 _ _ rfl rfl (by decide)
    have v39 : vs 34 = .bool true := hV 34 _ _ rfl rfl (by decide)
    have v40 : vs 35 = .bool true := hV 35 _ _ rfl rfl (by decide)
    have v4 : vs 36 = .bool true := hV 36 _ _ rfl rfl (by decide)
    clear hV
    simp only [putL, Act.put, Nat.reduceAdd, List.setIfInBounds_toArray, List.set_cons_zero, List.set_cons_succ, v5, v6, v7, v8, v9, v10, v11, v12, v13, v14, v15, v16, v17, v18, v19, v20, v21, v22, v23, v24, v25, v26, v27, v28, v29, v30, v31, v32, v33, v34, v35, v37, v38, v39, v40, v4]
    go_wp2_with fail
    go_ret
    exact BoolPost.mk' rfl (f0.then' fw8)
def BuiltS (n0 b : Nat) (es : List EnV) : Stb (Fr noB) :=
  ⟨fun v W => ∃ A n c, v = .agg #[.int .u64 b, .slice A n c] ∧ Hid (es.length = n) ∧ W.ownsRow n0 42 9 (.slice A n c) n (es.flatMap EnV.C),
   fun _ _ _ ⟨A, n, c, h1, h2, h3⟩ f => ⟨A, n, c, h1, h2, own_fr h3 f (fun _ _ => id)⟩⟩
def LogS (n0 b : Nat) (es : List EnV) : Stb (Fr noB) :=
  ⟨fun v W => ∃ q, v = .pointer (some ⟨q, 0, none⟩) ∧ LogA W (upB n0) q b es, fun _ _ _ ⟨q, h1, h2⟩ f => ⟨q, h1, h2.fr0 f⟩⟩
set_option maxRecDepth 100000 in
set_option maxHeartbeats 1600000 in
theorem copyL_calls (w : World) (U : Nat → Prop) (p b : Nat) (es : List EnV) (h : LogA w U p b es) (hw : es.length ≤ 1000000) :
    Calls Tryd.prog 76 #[.pointer (some ⟨p, 0, none⟩)] w (fun e w' => ∃ q, e = .returned (.pointer (some ⟨q, 0, none⟩)) ∧ LogA w' (upB w.heap.size) q b es ∧ Fr noB w w') := by
  obtain ⟨A, n, c, hn, hB, hO, hUp, hgp⟩ := h
  obtain ⟨_, _, _, hnil⟩ := ownE_caps hO
  have hrow := own_row hO
  rw [hn.out] at hw
  have hcl := fun W h => cloneE_calls W A n c es h hn hnil (by omega)
  clear hO hgp
  go_enter Tryd.func76, Tryd.ntmps76
  go_wp2_with fail
  apply wp_region_calm (R := Fr noB) (C := fun _ w' => Fr noB w w') [false, false, false, false, false, false, false, false, false, false, false, false]
    [eqv _, eqv _, eqv _, eqv _, eqv _, eqv _, eqv _, eqv _, OwnE w.heap.size noB (fun _ _ h => h) es, BuiltS w.heap.size b es, LogS w.heap.size b es, LogS w.heap.size b es]
    (by kernel_rfl) (by kernel_rfl) (fun _ _ _ h1 h2 => h1.then' h2) ((Fr.refl _ _).drew) ((Fr.refl _ _).drew) (by kernel_rfl)
  · refine ⟨?_, ?_, ?_, ?_, ?_, ?_, ?_, ?_, ?_, ?_, ?_, ?_, trivial⟩
    · rw [if_neg (by decide)]; intro kq
      exact calm_mv 0 rfl rfl (Or.inl rfl) (Fr.refl _) (by decide) fun v w hd => hd
    · rw [if_neg (by decide)]; intro kq
      intro a W K hC hd hK
      have d3 : _ = _ := hd 3 (by decide)
      refine wpOp_plain rfl rfl ?_
      go_wp2_with fail
      exact hK _ _ (Fr.refl _ _) hC rfl
    · rw [if_neg (by decide)]; intro kq
      intro a W K hC hd hK
      have d4 : _ = _ := hd 4 (by decide)
      refine wpOp_plain rfl rfl ?_
      obtain ⟨x0, x1, xf⟩ := BlkAt.c2 (hB.fr hC id)
      go_wp2_with fail
      exact hK _ _ (Fr.refl _ _) hC rfl
    · rw [if_neg (by decide)]; intro kq
      intro a W K hC hd hK
      have d5 : _ = _ := hd 5 (by decide)
      refine wpOp_plain rfl rfl ?_
      obtain ⟨x0, x1, xf⟩ := BlkAt.c2 (hB.fr hC id)
      go_wp2_with fail
      exact hK _ _ (Fr.refl _ _) hC rfl
    · rw [if_neg (by decide)]; intro kq
      exact calm_mv 0 rfl rfl (Or.inl rfl) (Fr.refl _) (by decide) fun v w hd => hd
    · rw [if_neg (by decide)]; intro kq
      intro a W K hC hd hK
      have d7 : _ = _ := hd 7 (by decide)
      refine wpOp_plain rfl rfl ?_
      go_wp2_with fail
      exact hK _ _ (Fr.refl _ _) hC rfl
    · rw [if_neg (by decide)]; intro kq
      intro a W K hC hd hK
      have d8 : _ = _ := hd 8 (by decide)
      refine wpOp_plain rfl rfl ?_
      obtain ⟨x0, x1, xf⟩ := BlkAt.c2 (hB.fr hC id)
      go_wp2_with fail
      exact hK _ _ (Fr.refl _ _) hC rfl
    · rw [if_neg (by decide)]; intro kq
      intro a W K hC hd hK
      have d9 : _ = _ := hd 9 (by decide)
      refine wpOp_plain rfl rfl ?_
      obtain ⟨x0, x1, xf⟩ := BlkAt.c2 (hB.fr hC id)
      go_wp2_with fail
      exact hK _ _ (Fr.refl _ _) hC rfl
    · rw [if_neg (by decide)]; intro kq
      intro a W K hC hd hK
      have d10 : _ = _ := hd 10 (by decide)
      refine wpOp_plain rfl rfl ?_
      obtain ⟨x0, x1, xf⟩ := BlkAt.c2 (hB.fr hC id)
      go_wp2_with fail
      refine (hcl W (hrow.fr0 hC)).mono ?_
      rintro e9 w9 ⟨A9, c9, rfl, h9, f9⟩
      exact hK _ _ f9 (hC.then' f9) ⟨A9, n, c9, rfl, hn, own_mono h9 (fun g hg => Nat.le_trans hC.size (h9.lt g hg).1)⟩
    · rw [if_neg (by decide)]; intro kq
      intro a W K hC hd hK
      have d6 : _ = _ := hd 6 (by decide)
      have d11 : (OwnE w.heap.size noB (fun _ _ h => h) es).V (a.tmps[11]?.getD undef) W := hd 11 (by decide)
      refine wpOp_plain rfl rfl ?_
      obtain ⟨A9, n9, c9, d11, hn9, h9⟩ := d11
      go_wp2_with fail
      exact hK _ _ (Fr.refl _ _) hC ⟨A9, n9, c9, rfl, hn9, h9⟩
    · rw [if_neg (by decide)]; intro kq
      intro a W K hC hd hK
      have d12 : (BuiltS w.heap.size b es).V (a.tmps[12]?.getD undef) W := hd 12 (by decide)
      refine wpOp_plain rfl rfl ?_
      obtain ⟨A9, n9, c9, d12, hn9, h9⟩ := d12
      have fa := (Fr.refl noB W).alloc (.cells #[.int .u64 b, .slice A9 n9 c9] 120)
      have hnw := BlkAt.new W #[.int .u64 b, .slice A9 n9 c9] 120
      go_wp2_with fail
      exact hK _ _ fa (hC.then' fa) ⟨W.heap.size, rfl, A9, n9, c9, hn9, hnw, own_mono (own_fr h9 fa (fun _ _ => id)) (fun _ _ => Nat.zero_le _), hC.size, fun g hg => ⟨(h9.lt g hg).1, Nat.ne_of_lt (h9.lt g hg).2⟩⟩
    · rw [if_neg (by decide)]; intro kq
      intro a W K hC hd hK
      have d13 : (LogS w.heap.size b es).V (a.tmps[13]?.getD undef) W := hd 13 (by decide)
      refine wpOp_plain rfl rfl ?_
      obtain ⟨q9, d13, h9⟩ := d13
      go_wp2_with fail
      exact hK _ _ (Fr.refl _ _) hC ⟨q9, rfl, h9⟩
  · intro vs w8 fw8 cw8 hV
    have v3 : vs 0 = _ := hV 0 _ _ rfl rfl (by decide)
    have v4 : vs 1 = _ := hV 1 _ _ rfl rfl (by decide)
    have v5 : vs 2 = _ := hV 2 _ _ rfl rfl (by decide)
    have v6 : vs 3 = _ := hV 3 _ _ rfl rfl (by decide)
    have v7 : vs 4 = _ := hV 4 _ _ rfl rfl (by decide)
    have v8 : vs 5 = _ := hV 5 _ _ rfl rfl (by decide)
    have v9 : vs 6 = _ := hV 6 _ _ rfl rfl (by decide)
    have v10 : vs 7 = _ := hV 7 _ _ rfl rfl (by decide)
    have v11 : (OwnE w.heap.size noB (fun _ _ h => h) es).V (vs 8) w8 := hV 8 _ _ rfl rfl (by decide)
    have v12 : (BuiltS w.heap.size b es).V (vs 9) w8 := hV 9 _ _ rfl rfl (by decide)
    have v13 : (LogS w.heap.size b es).V (vs 10) w8 := hV 10 _ _ rfl rfl (by decide)
    have v2 : (LogS w.heap.size b es).V (vs 11) w8 := hV 11 _ _ rfl rfl (by decide)
    clear hV
    simp only [putL, Act.put, Nat.reduceAdd, List.setIfInBounds_toArray, List.set_cons_zero, List.set_cons_succ, v3, v4, v5, v6, v7, v8, v9, v10]
    obtain ⟨q8, e8, h8⟩ := v2
    rw [e8]
    clear cw8 v11 v12 v13 e8
    go_wp2_with fail
    go_ret
    exact ⟨q8, rfl, h8, fw8⟩
end Go.Proofs.YtcaihinenfnekaaDoor
/- Acts on logs; a relation for local variables of the reference's logs. -/
namespace Go.Proofs.YtcaihinenfnekaaDoor
open Go.RowKit
structure ActL where
  k : Nat
  e : EnV
  n : Nat
def ActL.C (a : ActL) : List Value := [.int .u8 a.k, .int .u64 a.e.op, .int .u64 a.e.view, .int .u8 a.e.cl, .int .u64 a.e.num, .int .u8 a.e.o.k, .string a.e.o.a, .string a.e.o.b, .int .u8 a.e.o.n, .int .u8 a.e.o.r, .int .u64 a.n]
def ActL.v (a : ActL) : Value := .agg #[.int .u8 a.k, .int .u64 a.e.op, .int .u64 a.e.view, .int .u8 a.e.cl, .int .u64 a.e.num, .int .u8 a.e.o.k, .string a.e.o.a, .string a.e.o.b, .int .u8 a.e.o.n, .int .u8 a.e.o.r, .int .u64 a.n]
structure ActL.ok (a : ActL) : Prop where
  k : a.k < 256
  e : a.e.wf
  n : a.n < 18446744073709551616
def ActL.small (a : ActL) : Bool := decide (a.e.o.a.size ≤ 200) && decide (a.e.o.b.size ≤ 200)
def fewL (L : List ActL) : Bool := L.all ActL.small && decide (L.length ≤ 60)
noncomputable def stepL (b : Nat) (es : List EnV) (a : ActL) : Nat × List EnV :=
  if a.k % 4 = 0 then (b, (appL b es a.e).1) else if a.k % 4 = 1 then (b, (appL b es {a.e with op := lastL b es + 1}).1) else if a.k % 4 = 2 then (trimL b es a.n).1 else (b, es)
theorem EnV.wf.op' {e : EnV} (h : e.wf) {o : Nat} (ho : o < 18446744073709551616) : ({e with op := o} : EnV).wf := ⟨ho, h.view, h.cl, h.num, h.o⟩
theorem GoodL.step {b : Nat} {es : List EnV} (h : GoodL b es) {a : ActL} (ha : a.ok) : GoodL (stepL b es a).1 (stepL b es a).2 := by
  unfold stepL
  split
  · exact h.app ha.e
  · split
    · exact h.app (ha.e.op' (by have := h.last; omega))
    · split
      · exact h.trim _
      · exact h
set_option maxRecDepth 100000 in
set_option maxHeartbeats 1600000 in
theorem few20_calls (w : World) (A : Option Addr) (cap n : Nat) (L : List ActL) (h : RowAt w A (L.flatMap ActL.C)) (HN : Hid (L.length = n)) (hl : n ≤ 9223372036854775807) :
    Calls Tryd.prog 31 #[.slice A n cap] w (BoolPost w (fewL L)) := by
  go_enter Tryd.func31, Tryd.ntmps31
  go_wp2_with fail
  go_loopw [7] (fun i wr => ∃ k : Nat, k ≤ n ∧ i = .int .i64 k ∧ (L.take k).all ActL.small = true ∧ Fr noB w wr) (fun i _ => n - (intOf i).toNat)
  case atStart => exact ⟨0, Nat.zero_le _, rfl, by simp, Fr.refl _ _⟩
  case round =>
    obtain ⟨k, hk, rfl, ha, hf⟩ := hrel
    by_cases hkn : k < n
    · obtain ⟨a, hit⟩ : ∃ a, L[k]? = some a := ⟨_, List.getElem?_eq_getElem (by rw [HN.out]; exact hkn)⟩
      obtain ⟨ad, rfl⟩ := h.some_flat (by simp [ActL.C]) hit
      have hseg := (h.seg 11 (fun _ => rfl) hit).fr hf id
      have hfa : Fr noB wr (wr.alloc (.cells a.C.toArray 57)) := (Fr.refl noB wr).alloc _
      have hba : BlkAt (wr.alloc (.cells a.C.toArray 57)) wr.heap.size 57 a.C.toArray := BlkAt.new _ _ _
      have hmem := List.mem_of_getElem? hit
      have HT : Hid ((L.take (k + 1)).all ActL.small = a.small) := by
        unfold Hid; rw [take_snoc' hit, List.all_append, ha]; simp
      have HF : Hid (a.small = false → fewL L = false) := fun e => by
        unfold fewL; rw [List.all_eq_false.2 ⟨a, hmem, by rw [e]; decide⟩]; rfl
      have HS : Hid (a.small = (decide (a.e.o.a.size ≤ 200) && decide (a.e.o.b.size ≤ 200))) := rfl
      generalize a.small = ok at *
      obtain ⟨ak, ⟨op, view, cl, num, ⟨kk, oa, ob, on, or⟩⟩, an⟩ := a
      unfold ActL.C at hseg hfa hba
      simp only [] at *
      obtain ⟨z0, z1, z2, z3, z4, z5, z6, z7, z8, z9, z10⟩ := hseg.c11
      have hF := hf.then' hfa
      clear ha hmem hit hf
      go_upto_region 4 with fail
      generalize hwb : (wr.alloc (.cells #[.int .u8 ak, .int .u64 op, .int .u64 view, .int .u8 cl, .int .u64 num, .int .u8 kk, .string oa, .string ob, .int .u8 on, .int .u8 or, .int .u64 an] 57)) = wb at *
      clear hwb hseg z0 z1 z2 z3 z4 z5 z6 z7 z8 z9 z10
      obtain ⟨z0, z1, z2, z3, z4, z5, z6, z7, z8, z9, z10, zf⟩ := BlkAt.c11 hba
      obtain ⟨c1, hc1⟩ : ∃ c, decide ((200 : Int) < oa.size) = c := ⟨_, rfl⟩
      obtain ⟨c2, hc2⟩ : ∃ c, decide ((200 : Int) < ob.size) = c := ⟨_, rfl⟩
      have e1 : decide (oa.size ≤ 200) = !c1 := by rw [← hc1]; by_cases h : oa.size ≤ 200 <;> simp [h] <;> omega
      have e2 : decide (ob.size ≤ 200) = !c2 := by rw [← hc2]; by_cases h : ob.size ≤ 200 <;> simp [h] <;> omega
      rw [e1, e2] at HS
      clear e1 e2
      cases c1 <;> cases c2
      · go_wp2_with fail
        go_roundw
        case rel => exact ⟨k + 1, by omega, by go_num, by rw [HT.out, HS.out]; rfl, hF⟩
        case measure => simp [intOf]; omega
      all_goals
        go_wp2_with fail
        go_ret
        exact BoolPost.mk' (HF.out HS.out).symm hF
    · have : k = n := by omega
      subst this
      have HE : Hid (fewL L = decide (k ≤ 60)) := by
        unfold Hid fewL; rw [HN.out]; rw [List.take_of_length_le (by rw [HN.out]; exact Nat.le_refl _)] at ha; rw [ha]; rfl
      clear ha
      go_wp2_with fail
      go_ret
      refine BoolPost.mk' ?_ hf
      rw [HE.out]
      exact decide_eq_decide.2 (by omega)
/-! ### blocks of one type alone turn -/
def RT (n0 : Nat) (T : TypeId) (W W' : World) : Prop := Fr (fun k => n0 ≤ k ∧ ∃ C fz, W.heap[k]? = some (.cells C T fz)) W W'
theorem RT.trans {n0 : Nat} {T : TypeId} {a b c : World} (h : RT n0 T a b) (k : RT n0 T b c) : RT n0 T a c :=
  Fr.trans h k fun i hi ⟨h0, C, fz, hC⟩ => by
    by_cases hS : n0 ≤ i ∧ ∃ C fz, a.heap[i]? = some (.cells C T fz)
    · exact hS
    · have := h.block i hi hS
      rw [this] at hC
      exact absurd ⟨h0, C, fz, hC⟩ hS
theorem RT.of {n0 : Nat} {T : TypeId} {a b : World} (h : Fr noB a b) : RT n0 T a b := Fr.mono h fun _ _ h => h.elim
theorem RT.drewR (n0 : Nat) (T : TypeId) (a : World) : RT n0 T a a.drew := RT.of (Fr.refl noB a).drew
theorem RT.noB {n0 : Nat} {T : TypeId} {w a b : World} (f : Fr noB w a) (h : RT n0 T a b) (hn : w.heap.size ≤ n0) : Fr noB w b := f.trans h (fun i hi ⟨h0, _⟩ => by omega)
theorem RT.set {n0 : Nat} {T : TypeId} {W : World} {g : Nat} {C : Array Value} (hb : BlkAt W g T C) (h0 : n0 ≤ g) (j : Nat) (v : Value) : RT n0 T W (W.setCell ⟨g, j, none⟩ v) :=
  (fr_set1 W g j v).mono fun k _ h => by unfold eqB at h; subst h; exact ⟨h0, C, _, hb⟩
/-- A row that lies below n0, or in a block of another type. -/
def LowOr (n0 : Nat) (T : TypeId) (W : World) (A : Option Addr) : Prop := ∀ ad, A = some ad → ad.block < n0 ∨ ∃ C fz, T ≠ 90 ∧ W.heap[ad.block]? = some (.cells C 90 fz)
theorem LowOr.keep {n0 : Nat} {T : TypeId} {W W' : World} {A : Option Addr} (h : LowOr n0 T W A) (f : RT n0 T W W') : LowOr n0 T W' A := fun ad e => by
  rcases h ad e with h1 | ⟨C, fz, hT, h1⟩
  · exact Or.inl h1
  · exact Or.inr ⟨C, fz, hT, f.heap h1 (fun ⟨_, C', fz', h2⟩ => by rw [h1] at h2; injection h2 with h2; injection h2 with _ h3; exact hT h3.symm)⟩
theorem RefA.keep {n0 : Nat} {T : TypeId} {W W' : World} {A : Option Addr} {n c : Nat} {es : List EnV} (h : RefA W A n c es) (hl : LowOr n0 T W A) (f : RT n0 T W W') : RefA W' A n c es :=
  ⟨h.len, h.cap, h.nil, h.row.fr f (fun ad e _ _ ⟨h0, C', fz', h2⟩ => by
    rcases hl ad e with h1 | ⟨C, fz, hT, h1⟩
    · omega
    · rw [h1] at h2; injection h2 with h2; injection h2 with _ h3; exact hT h3.symm)⟩
end Go.Proofs.YtcaihinenfnekaaDoor
/- interrexlaw20.play. -/
namespace Go.Proofs.YtcaihinenfnekaaDoor
open Go.RowKit
def RowR (w0 : World) (A : Option Addr) (es : List EnV) (B : Option Addr) (m d : Nat) (W : World) : Prop := RefA W B m d es ∧ Placed w0 W A B
theorem Placed.low {w0 w w' : World} {A B : Option Addr} (h : Placed w w' A B) (hs : w0.heap.size ≤ w.heap.size) : Placed w0 w' A B := by
  rcases h with h | h
  · exact Or.inl h
  · exact Or.inr fun ad e => ⟨Nat.le_trans hs (h ad e).1, (h ad e).2⟩
theorem Placed.fr {w0 w w' : World} {S : Nat → Prop} {A B : Option Addr} (h : Placed w0 w A B) (f : Fr S w w') (hS : ∀ ad, B = some ad → B ≠ A → ¬ S ad.block) : Placed w0 w' A B := by
  by_cases hBA : B = A
  · exact Or.inl hBA
  · rcases h with h | h
    · exact absurd h hBA
    · exact Or.inr fun ad e => by
        obtain ⟨h1, C, fz, h2⟩ := h ad e
        exact ⟨h1, C, fz, f.heap h2 (hS ad e hBA)⟩
theorem RowR.keep {w0 W W' : World} {A B : Option Addr} {es : List EnV} {m d : Nat} (h : RowR w0 A es B m d W) (hA : ∀ ad, A = some ad → ad.block < w0.heap.size) (f : RT w0.heap.size 54 W W') : RowR w0 A es B m d W' := by
  have hl : LowOr w0.heap.size 54 W B := fun ad e => by
    rcases h.2 with h1 | h1
    · subst h1; exact Or.inl (hA ad e)
    · obtain ⟨_, C, fz, h2⟩ := h1 ad e
      exact Or.inr ⟨C, fz, by decide, h2⟩
  refine ⟨h.1.keep hl f, ?_⟩
  rcases h.2 with h1 | h1
  · exact Or.inl h1
  · refine Or.inr fun ad e => ?_
    obtain ⟨h2, C, fz, h3⟩ := h1 ad e
    exact ⟨h2, C, fz, Fr.heap f h3 (fun ⟨_, C', fz', h4⟩ => by rw [h3] at h4; injection h4 with h4; injection h4 with _ h5; cases h5)⟩
def TupS (w0 : World) (A : Option Addr) (hA : ∀ ad, A = some ad → ad.block < w0.heap.size) (b r : Nat) (es : List EnV) : Stb (RT w0.heap.size 54) :=
  ⟨fun v W => ∃ B m d, v = .tuple #[.agg #[.int .u64 b, .slice B m d], .int .i64 r] ∧ RowR w0 A es B m d W, fun _ _ _ ⟨B, m, d, h1, h2⟩ f => ⟨B, m, d, h1, h2.keep hA f⟩⟩
def AggS (w0 : World) (A : Option Addr) (hA : ∀ ad, A = some ad → ad.block < w0.heap.size) (b : Nat) (es : List EnV) : Stb (RT w0.heap.size 54) :=
  ⟨fun v W => ∃ B m d, v = .agg #[.int .u64 b, .slice B m d] ∧ RowR w0 A es B m d W, fun _ _ _ ⟨B, m, d, h1, h2⟩ f => ⟨B, m, d, h1, h2.keep hA f⟩⟩
def VarC (w0 : World) (A : Option Addr) (b : Nat) (es : List EnV) : Nat → Value → World → Prop
  | 0, _, _ => True
  | 1, v, W => ∃ g, v = .pointer (some ⟨g, 0, none⟩) ∧ w0.heap.size ≤ g ∧ BlkAt W g 54 #[.int .u64 0, .slice none 0 0]
  | _, v, W => ∃ g B m d, v = .pointer (some ⟨g, 0, none⟩) ∧ w0.heap.size ≤ g ∧ BlkAt W g 54 #[.int .u64 b, .slice B m d] ∧ RowR w0 A es B m d W
theorem RowR.fr0 {w0 W W' : World} {A B : Option Addr} {es : List EnV} {m d : Nat} (h : RowR w0 A es B m d W) (f : Fr noB W W') : RowR w0 A es B m d W' := ⟨h.1.fr0 f, h.2.fr f (fun _ _ _ => id)⟩
theorem VarC.fr0 {w0 : World} {A : Option Addr} {b : Nat} {es : List EnV} {q : Nat} {v : Value} {W W' : World} (h : VarC w0 A b es q v W) (f : Fr noB W W') : VarC w0 A b es q v W' := by
  match q, h with
  | 0, _ => trivial
  | 1, ⟨g, h1, h2, h3⟩ => exact ⟨g, h1, h2, h3.fr f id⟩
  | q + 2, ⟨g, B, m, d, h1, h2, h3, h4⟩ => exact ⟨g, B, m, d, h1, h2, h3.fr f id, h4.fr0 f⟩
/-- The log's blocks where memory had n0 blocks, and what is new behind n1. -/
def cutU (U : Nat → Prop) (n0 n1 : Nat) : Nat → Prop := fun k => (U k ∧ k < n0) ∨ n1 ≤ k
def P7 (U : Nat → Prop) (p b b' q6 : Nat) (es es' : List EnV) (v : Value) : Nat → World → Prop
  | 0, W => LogA W U p b es ∧ BlkAt W q6 54 #[.int .u64 0, .slice none 0 0] ∧ SignsAt W
  | 1, W => LogA W U p b' es' ∧ BlkAt W q6 54 #[.int .u64 0, .slice none 0 0]
  | _, W => LogA W U p b' es' ∧ BlkAt W q6 54 #[.int .u64 b', v]
theorem P7.fr0 {U : Nat → Prop} {p b b' q6 : Nat} {es es' : List EnV} {v : Value} {q : Nat} {W W' : World} (h : P7 U p b b' q6 es es' v q W) (f : Fr noB W W') : P7 U p b b' q6 es es' v q W' := by
  match q, h with
  | 0, h => exact ⟨h.1.fr0 f, h.2.1.fr f id, h.2.2.fr0 f⟩
  | 1, h => exact ⟨h.1.fr0 f, h.2.fr f id⟩
  | q + 2, h => exact ⟨h.1.fr0 f, h.2.fr f id⟩
def PlayPost (w : World) (U : Nat → Prop) (p : Nat) (A : Option Addr) (q : Nat × List EnV) (ed : Ending) (w' : World) : Prop :=
  ∃ B m d, ed = .returned (.tuple #[.agg #[.int .u64 q.1, .slice B m d], .bool true]) ∧ RefA w' B m d q.2 ∧ Placed w w' A B ∧ LogA w' (fun k => (U k ∨ w.heap.size ≤ k) ∧ ∀ ad, B = some ad → k ≠ ad.block) p q.1 q.2 ∧ Fr U w w'
theorem playPost_of {w w6 w7 : World} {U : Nat → Prop} {p n1 : Nat} {A B : Option Addr} {m d : Nat} {q : Nat × List EnV} (hlt : ∀ ad, A = some ad → ad.block < w.heap.size) (hUA : ∀ ad, A = some ad → ¬ U ad.block)
    (F6 : Fr noB w w6) (fw : Fr (orB (cutU U w.heap.size n1) (w.heap.size + 2)) w6 w7) (h1 : w.heap.size + 2 < n1) (hn1 : n1 = w6.heap.size) (hrow : RowR w A q.2 B m d w6) (hgt : B ≠ A → ∀ ad, B = some ad → w.heap.size + 2 < ad.block) (hL : LogA w7 (cutU U w.heap.size n1) p q.1 q.2) :
    PlayPost w U p A q (.returned (.tuple #[.agg #[.int .u64 q.1, .slice B m d], .bool true])) w7 := by
  have hnB : ∀ ad, B = some ad → ¬ orB (cutU U w.heap.size n1) (w.heap.size + 2) ad.block := fun ad e h => by
    have hlt6 := hrow.2.lt F6.size hlt ad e
    by_cases hBA : B = A
    · have h2 := hlt ad (hBA ▸ e)
      have h3 := hUA ad (hBA ▸ e)
      rcases h with h | h
      · rcases h with h | h
        · exact h3 h.1
        · omega
      · omega
    · have h4 := hgt hBA ad e
      rcases h with h | h
      · rcases h with h | h
        · omega
        · omega
      · omega
  refine ⟨B, m, d, rfl, ⟨hrow.1.len, hrow.1.cap, hrow.1.nil, hrow.1.row.fr fw (fun ad e _ _ => hnB ad e)⟩, hrow.2.fr fw (fun ad e _ => hnB ad e), hL.mono fun k hk h => ⟨?_, fun ad e h2 => hnB ad e (Or.inl (h2 ▸ h))⟩, (F6.mono fun _ _ h => h.elim).trans fw fun i hi h => ?_⟩
  · rcases h with h | h
    · exact Or.inl h.1
    · exact Or.inr (by omega)
  · rcases h with h | h
    · rcases h with h | h
      · exact h.1
      · omega
    · omega
set_option maxRecDepth 100000 in
set_option maxHeartbeats 3200000 in
theorem play_calls (w : World) (U : Nat → Prop) (p b n c : Nat) (A : Option Addr) (es : List EnV) (a : ActL) (ht : SignsAt w) (h : LogA w U p b es) (hG : GoodL b es) (hR : RefA w A n c es) (hlt : ∀ ad, A = some ad → ad.block < w.heap.size) (hUA : ∀ ad, A = some ad → ¬ U ad.block)
    (hok : a.ok) (ha : a.e.o.a.size ≤ 1000000000000) (hb : a.e.o.b.size ≤ 1000000000000) :
    Calls Tryd.prog 33 #[.pointer (some ⟨p, 0, none⟩), .agg #[.int .u64 b, .slice A n c], a.v] w (PlayPost w U p A (stepL b es a)) := by
  have HV : Hid (stepL b es a = if a.k % 4 = 0 then (b, (appL b es a.e).1) else if a.k % 4 = 1 then (b, (appL b es {a.e with op := lastL b es + 1}).1) else if a.k % 4 = 2 then (trimL b es a.n).1 else (b, es)) := rfl
  have hll := hG.last
  have hbb := hG.base
  have hw16 := hG.few
  have HLA : Hid (lastL b es = b + n) := by unfold Hid lastL; rw [hR.len.out]
  have hke := hok.e
  have hkk := hok.k
  have hkn := hok.n
  obtain ⟨ak, ⟨op, view, cl, num, ⟨k, oa, ob, on, or⟩⟩, an⟩ := a
  unfold ActL.v
  simp only [] at *
  rw [HLA.out] at HV
  generalize stepL b es ⟨ak, ⟨op, view, cl, num, ⟨k, oa, ob, on, or⟩⟩, an⟩ = res at *
  have f0 : Fr noB w (((w.alloc (.cells #[.int .u64 b, .slice A n c] 54)).alloc (.cells #[.int .u8 ak, .int .u64 op, .int .u64 view, .int .u8 cl, .int .u64 num, .int .u8 k, .string oa, .string ob, .int .u8 on, .int .u8 or, .int .u64 an] 57)).alloc (.cells #[.int .u64 0, .slice none 0 0] 54)) := (((Fr.refl noB w).alloc _).alloc _).alloc _
  have hb4 : BlkAt (((w.alloc (.cells #[.int .u64 b, .slice A n c] 54)).alloc (.cells #[.int .u8 ak, .int .u64 op, .int .u64 view, .int .u8 cl, .int .u64 num, .int .u8 k, .string oa, .string ob, .int .u8 on, .int .u8 or, .int .u64 an] 57)).alloc (.cells #[.int .u64 0, .slice none 0 0] 54)) w.heap.size 54 #[.int .u64 b, .slice A n c] := ((BlkAt.new _ _ _).al _).al _
  have hb5 : BlkAt (((w.alloc (.cells #[.int .u64 b, .slice A n c] 54)).alloc (.cells #[.int .u8 ak, .int .u64 op, .int .u64 view, .int .u8 cl, .int .u64 num, .int .u8 k, .string oa, .string ob, .int .u8 on, .int .u8 or, .int .u64 an] 57)).alloc (.cells #[.int .u64 0, .slice none 0 0] 54)) (w.heap.size + 1) 57 #[.int .u8 ak, .int .u64 op, .int .u64 view, .int .u8 cl, .int .u64 num, .int .u8 k, .string oa, .string ob, .int .u8 on, .int .u8 or, .int .u64 an] := by
    have := (BlkAt.new (w.alloc (.cells #[.int .u64 b, .slice A n c] 54)) #[.int .u8 ak, .int .u64 op, .int .u64 view, .int .u8 cl, .int .u64 num, .int .u8 k, .string oa, .string ob, .int .u8 on, .int .u8 or, .int .u64 an] 57).al (.cells #[.int .u64 0, .slice none 0 0] 54)
    rwa [al_size] at this
  have hb6 : BlkAt (((w.alloc (.cells #[.int .u64 b, .slice A n c] 54)).alloc (.cells #[.int .u8 ak, .int .u64 op, .int .u64 view, .int .u8 cl, .int .u64 num, .int .u8 k, .string oa, .string ob, .int .u8 on, .int .u8 or, .int .u64 an] 57)).alloc (.cells #[.int .u64 0, .slice none 0 0] 54)) (w.heap.size + 2) 54 #[.int .u64 0, .slice none 0 0] := by
    have := BlkAt.new ((w.alloc (.cells #[.int .u64 b, .slice A n c] 54)).alloc (.cells #[.int .u8 ak, .int .u64 op, .int .u64 view, .int .u8 cl, .int .u64 num, .int .u8 k, .string oa, .string ob, .int .u8 on, .int .u8 or, .int .u64 an] 57)) #[.int .u64 0, .slice none 0 0] 54
    rwa [al_size, al_size] at this
  have hr : Hid (Tryd.f33.results = #[.cell 6 54, .tmp 7]) := by unfold Hid; kernel_rfl
  obtain ⟨km, hkm⟩ : ∃ km, ak % 4 = km := ⟨_, rfl⟩
  have hmod : (ak : Int) % 4 = km := by omega
  have hk4 : km = 0 ∨ km = 1 ∨ km = 2 ∨ km = 3 := by omega
  rw [hkm] at HV
  clear hkm
  have hcl : ((b + n : Nat) : Int) = (b : Int) + n := by omega
  go_enter Tryd.func33, Tryd.ntmps33
  go_upto_region 1 with fail
  generalize (((w.alloc (.cells #[.int .u64 b, .slice A n c] 54)).alloc (.cells #[.int .u8 ak, .int .u64 op, .int .u64 view, .int .u8 cl, .int .u64 num, .int .u8 k, .string oa, .string ob, .int .u8 on, .int .u8 or, .int .u64 an] 57)).alloc (.cells #[.int .u64 0, .slice none 0 0] 54)) = wa at *
  obtain ⟨z0, z1, z2, z3, z4, z5, z6, z7, z8, z9, z10, zf⟩ := BlkAt.c11 hb5
  rcases hk4 with rfl | rfl | rfl | rfl
  · -- Append(E)
    rw [if_pos rfl] at HV
    have F5 := f0
    go_wp2_with fail
    clear z0 z1 z2 z3 z4 z5 z6 z7 z8 z9 z10 zf f0
    generalize wa = w5 at *
    have hwe : EnV.wf ⟨op, view, cl, num, ⟨k, oa, ob, on, or⟩⟩ := hke
    have hap := fun W U' h1 h2 h3 => appL_calls W U' p b es ⟨op, view, cl, num, ⟨k, oa, ob, on, or⟩⟩ h1 h2 h3 hG hwe ha hb
    have har := fun W h1 => appR_calls W b n c A es ⟨op, view, cl, num, ⟨k, oa, ob, on, or⟩⟩ h1 hG hwe ha hb
    have hrf := fun W => ref19_calls W ⟨op, view, cl, num, ⟨k, oa, ob, on, or⟩⟩
    unfold EnV.v at hap har hrf
    simp only [] at hap har hrf HV
    obtain ⟨es1, r1, hres⟩ : ∃ es1 r1, appL b es ⟨op, view, cl, num, ⟨k, oa, ob, on, or⟩⟩ = (es1, r1) := ⟨_, _, rfl⟩
    rw [hres] at hap har HV
    simp only [] at hap har HV
    have hs5 := F5.size
    have hlt5 := hb6.lt
    have hR5 := hR.fr0 F5
    have hA5 : ∀ ad, A = some ad → ad.block < w5.heap.size := fun ad e => by have := hlt ad e; omega
    have hlow : LowOr w5.heap.size 54 w5 A := fun ad e => Or.inl (hA5 ad e)
    apply H.wp_region_calmL (R := RT w5.heap.size 54) (C := fun q ν W => RT w5.heap.size 54 w5 W ∧ BlkAt W w.heap.size 54 #[.int .u64 b, .slice A n c] ∧ BlkAt W (w.heap.size + 1) 57 #[.int .u8 ak, .int .u64 op, .int .u64 view, .int .u8 cl, .int .u64 num, .int .u8 k, .string oa, .string ob, .int .u8 on, .int .u8 or, .int .u64 an] ∧ VarC w5 A b es1 q (ν 8) W) [false, false, false, false, false, false, false, false, true, true, false] [0, 0, 0, 0, 0, 0, 0, 0, 0, 1, 2]
      [eqv _, eqv _, eqv _, eqv _, TupS w5 A hA5 b r1 es1, TupS w5 A hA5 b r1 es1, AggS w5 A hA5 b es1, eqv (.int .i64 r1), anyv, anyv, eqv (.int .i64 r1)]
      (by kernel_rfl) (by kernel_rfl) (fun _ _ _ h1 h2 => RT.trans h1 h2) (RT.drewR _ _ _) ⟨RT.drewR _ _ _, hb4, hb5, trivial⟩ (by kernel_rfl)
    · refine ⟨?_, ?_, ?_, ?_, ?_, ?_, ?_, ?_, ?_, ?_, ?_, trivial⟩
      · rw [if_neg (by decide)]; intro kq
        intro a W K hC hd hK
        have d4 : a.tmps[4]?.getD undef = .pointer (some ⟨w.heap.size, 0, none⟩) := hd 4 (by decide)
        refine wpOp_plain rfl rfl ?_
        obtain ⟨z0, z1, z2, z3, z4, z5, z6, z7, z8, z9, z10, zf⟩ := BlkAt.c11 hC.2.2.1
        obtain ⟨x0, x1, xf⟩ := BlkAt.c2 hC.2.1
        go_wp2_with fail
        exact hK _ _ (RT.of (Fr.refl noB _)) hC rfl
      · rw [if_neg (by decide)]; intro kq
        intro a W K hC hd hK
        have d5 : a.tmps[5]?.getD undef = .pointer (some ⟨w.heap.size + 1, 0, none⟩) := hd 5 (by decide)
        refine wpOp_plain rfl rfl ?_
        obtain ⟨z0, z1, z2, z3, z4, z5, z6, z7, z8, z9, z10, zf⟩ := BlkAt.c11 hC.2.2.1
        obtain ⟨x0, x1, xf⟩ := BlkAt.c2 hC.2.1
        go_wp2_with fail
        exact hK _ _ (RT.of (Fr.refl noB _)) hC rfl
      · rw [if_neg (by decide)]; intro kq
        intro a W K hC hd hK
        have d30 : _ = _ := hd 30 (by decide)
        refine wpOp_plain rfl rfl ?_
        obtain ⟨z0, z1, z2, z3, z4, z5, z6, z7, z8, z9, z10, zf⟩ := BlkAt.c11 hC.2.2.1
        obtain ⟨x0, x1, xf⟩ := BlkAt.c2 hC.2.1
        go_wp2_with fail
        exact hK _ _ (RT.of (Fr.refl noB _)) hC rfl
      · rw [if_neg (by decide)]; intro kq
        intro a W K hC hd hK
        have d31 : _ = _ := hd 31 (by decide)
        refine wpOp_plain rfl rfl ?_
        obtain ⟨z0, z1, z2, z3, z4, z5, z6, z7, z8, z9, z10, zf⟩ := BlkAt.c11 hC.2.2.1
        obtain ⟨x0, x1, xf⟩ := BlkAt.c2 hC.2.1
        go_wp2_with fail
        refine (hrf W).mono ?_
        rintro e9 w9 ⟨rfl, f9⟩
        exact hK _ _ (RT.of f9) ⟨RT.trans hC.1 (RT.of f9), hC.2.1.fr f9 id, hC.2.2.1.fr f9 id, hC.2.2.2.fr0 f9⟩ rfl
      · rw [if_neg (by decide)]; intro kq
        intro a W K hC hd hK
        have d29 : _ = _ := hd 29 (by decide)
        have d32 : _ = _ := hd 32 (by decide)
        refine wpOp_plain rfl rfl ?_
        obtain ⟨z0, z1, z2, z3, z4, z5, z6, z7, z8, z9, z10, zf⟩ := BlkAt.c11 hC.2.2.1
        obtain ⟨x0, x1, xf⟩ := BlkAt.c2 hC.2.1
        go_wp2_with fail
        refine (har W (hR5.keep hlow hC.1)).mono ?_
        rintro e9 w9 ⟨B9, m9, d9, rfl, hR9, hP9, f9⟩
        exact hK _ _ (RT.of f9) ⟨RT.trans hC.1 (RT.of f9), hC.2.1.fr f9 id, hC.2.2.1.fr f9 id, hC.2.2.2.fr0 f9⟩ ⟨B9, m9, d9, rfl, hR9, hP9.low hC.1.size⟩
      · rw [if_neg (by decide)]; intro kq
        exact H.calm_mv 33 rfl rfl (Or.inl rfl) (fun _ _ _ h => h) (fun W => RT.of (Fr.refl noB W)) (by decide) fun v w hd => hd
      · rw [if_neg (by decide)]; intro kq
        intro a W K hC hd hK
        have d28 : (TupS w5 A hA5 b r1 es1).V (a.tmps[28]?.getD undef) W := hd 28 (by decide)
        refine wpOp_plain rfl rfl ?_
        obtain ⟨B9, m9, d9, d28, hrow⟩ := d28
        go_wp2_with fail
        exact hK _ _ (RT.of (Fr.refl noB _)) hC ⟨B9, m9, d9, rfl, hrow⟩
      · rw [if_neg (by decide)]; intro kq
        intro a W K hC hd hK
        have d28 : (TupS w5 A hA5 b r1 es1).V (a.tmps[28]?.getD undef) W := hd 28 (by decide)
        refine wpOp_plain rfl rfl ?_
        obtain ⟨B9, m9, d9, d28, hrow⟩ := d28
        go_wp2_with fail
        exact hK _ _ (RT.of (Fr.refl noB _)) hC rfl
      · rw [if_pos (by decide)]
        intro a W K hC hd hK
        replace hC : (fun q ν W => RT w5.heap.size 54 w5 W ∧ BlkAt W w.heap.size 54 #[.int .u64 b, .slice A n c] ∧ BlkAt W (w.heap.size + 1) 57 #[.int .u8 ak, .int .u64 op, .int .u64 view, .int .u8 cl, .int .u64 num, .int .u8 k, .string oa, .string ob, .int .u8 on, .int .u8 or, .int .u64 an] ∧ VarC w5 A b es1 q (ν 8) W) 0 (fun t => a.eval (.tmp t)) W := hC
        refine wpOp_plain rfl rfl ?_
        have hn8 := BlkAt.new W #[.int .u64 0, .slice none 0 0] 54
        have fa := (Fr.refl noB W).alloc (.cells #[.int .u64 0, .slice none 0 0] 54)
        go_wp2_with fail
        exact hK _ _ (RT.of fa) ⟨RT.trans hC.1 (RT.of fa), hC.2.1.fr fa id, hC.2.2.1.fr fa id, W.heap.size, rfl, hC.1.size, hn8⟩ trivial
      · rw [if_pos (by decide)]
        intro a W K hC hd hK
        replace hC : (fun q ν W => RT w5.heap.size 54 w5 W ∧ BlkAt W w.heap.size 54 #[.int .u64 b, .slice A n c] ∧ BlkAt W (w.heap.size + 1) 57 #[.int .u8 ak, .int .u64 op, .int .u64 view, .int .u8 cl, .int .u64 num, .int .u8 k, .string oa, .string ob, .int .u8 on, .int .u8 or, .int .u64 an] ∧ VarC w5 A b es1 q (ν 8) W) 1 (fun t => a.eval (.tmp t)) W := hC
        have d8 : (anyv).V (a.tmps[8]?.getD undef) W := hd 8 (by decide)
        have d34 : (AggS w5 A hA5 b es1).V (a.tmps[34]?.getD undef) W := hd 34 (by decide)
        refine wpOp_plain rfl rfl ?_
        obtain ⟨z0, z1, z2, z3, z4, z5, z6, z7, z8, z9, z10, zf⟩ := BlkAt.c11 hC.2.2.1
        obtain ⟨x0, x1, xf⟩ := BlkAt.c2 hC.2.1
        obtain ⟨B9, m9, d9, d34, hrow⟩ := d34
        obtain ⟨g9, e9, hg9, hb9⟩ := hC.2.2.2
        have d8' : a.tmps[8]?.getD undef = .pointer (some ⟨g9, 0, none⟩) := by rw [← eval_get]; exact e9
        obtain ⟨y0, y1, yf⟩ := BlkAt.c2 hb9
        have hset := (hb9.set 0 (.int .u64 b)).set 1 (.slice B9 m9 d9)
        have fs : RT w5.heap.size 54 W ((W.setCell ⟨g9, 0, none⟩ (.int .u64 b)).setCell ⟨g9, 1, none⟩ (.slice B9 m9 d9)) := RT.trans (RT.set hb9 hg9 0 (.int .u64 b)) (RT.set (hb9.set 0 (.int .u64 b)) hg9 1 (.slice B9 m9 d9))
        go_wp2_with fail
        exact hK undef _ fs ⟨RT.trans hC.1 fs, hC.2.1.fr fs (fun ⟨h, _⟩ => by omega), hC.2.2.1.fr fs (fun ⟨h, _⟩ => by omega), g9, B9, m9, d9, e9, hg9, hset, hrow.keep hA5 fs⟩ trivial
      · rw [if_neg (by decide)]; intro kq
        exact H.calm_mv 35 rfl rfl (Or.inr rfl) (fun _ _ _ h => h) (fun W => RT.of (Fr.refl noB W)) (by decide) fun v w hd => hd
    · intro vs w6 fw6 cw6 hV
      have v29 : vs 0 = _ := hV 0 _ _ rfl rfl (by decide)
      have v30 : vs 1 = _ := hV 1 _ _ rfl rfl (by decide)
      have v31 : vs 2 = _ := hV 2 _ _ rfl rfl (by decide)
      have v32 : vs 3 = _ := hV 3 _ _ rfl rfl (by decide)
      have v33 : (TupS w5 A hA5 b r1 es1).V (vs 4) w6 := hV 4 _ _ rfl rfl (by decide)
      have v28 : (TupS w5 A hA5 b r1 es1).V (vs 5) w6 := hV 5 _ _ rfl rfl (by decide)
      have v34 : (AggS w5 A hA5 b es1).V (vs 6) w6 := hV 6 _ _ rfl rfl (by decide)
      have v35 : vs 7 = .int .i64 r1 := hV 7 _ _ rfl rfl (by decide)
      have v8 : (anyv).V (vs 8) w6 := hV 8 _ _ rfl rfl (by decide)
      have v9 : vs 10 = .int .i64 r1 := hV 10 _ _ rfl rfl (by decide)
      clear hV
      simp only [putL, Act.put, Nat.reduceAdd, List.setIfInBounds_toArray, List.set_cons_zero, List.set_cons_succ, v29, v30, v31, v32, v35, v9]
      obtain ⟨g, B, m, d, e8, hg, hbg, hrow⟩ := cw6.2.2.2
      have e8' : vs 8 = .pointer (some ⟨g, 0, none⟩) := e8
      have hb56 := cw6.2.2.1
      have hb66 := hb6.fr fw6 (fun ⟨h, _⟩ => by omega)
      have F6 : Fr noB w w6 := RT.noB F5 fw6 hs5
      have hL6 : LogA w6 (cutU U w.heap.size w6.heap.size) p b es := (h.mono (V := cutU U w.heap.size w6.heap.size) fun k hk hu => Or.inl ⟨hu, hk⟩).fr0 F6
      have ht6 := ht.fr0 F6
      have hgl := hbg.lt
      have hs6 : w5.heap.size ≤ w6.heap.size := Fr.size fw6
      rw [e8']
      clear e8 e8' cw6
      go_wp2_with fail
      apply wp_region_calm (R := Fr (orB (cutU U w.heap.size w6.heap.size) (w.heap.size + 2))) (C := fun q W => Fr (orB (cutU U w.heap.size w6.heap.size) (w.heap.size + 2)) w6 W ∧ BlkAt W (w.heap.size + 1) 57 #[.int .u8 ak, .int .u64 op, .int .u64 view, .int .u8 cl, .int .u64 num, .int .u8 k, .string oa, .string ob, .int .u8 on, .int .u8 or, .int .u64 an] ∧ BlkAt W g 54 #[.int .u64 b, .slice B m d] ∧ P7 (cutU U w.heap.size w6.heap.size) p b b (w.heap.size + 2) es es1 (.slice B m d) q W) [false, false, false, false, true, false, false, true, false]
        [eqv (.agg #[.int .u64 b, .slice B m d]), eqv (.pointer (some ⟨p, 0, none⟩)), eqv _, eqv _, eqv (.int .i64 r1), eqv (.int .i64 r1), eqv (.bool true), anyv, eqv (.bool true)]
        (by kernel_rfl) (by kernel_rfl) (fun _ _ _ h1 h2 => h1.then' h2) ((Fr.refl _ _).drew) ⟨(Fr.refl _ _).drew, hb56, hbg, hL6, hb66, ht6⟩ (by kernel_rfl)
      · refine ⟨?_, ?_, ?_, ?_, ?_, ?_, ?_, ?_, ?_, trivial⟩
        · rw [if_neg (by decide)]; intro kq
          intro a W K hC hd hK
          have d8 : a.tmps[8]?.getD undef = .pointer (some ⟨g, 0, none⟩) := hd 8 (by decide)
          refine wpOp_plain rfl rfl ?_
          obtain ⟨z0, z1, z2, z3, z4, z5, z6, z7, z8, z9, z10, zf⟩ := BlkAt.c11 hC.2.1
          obtain ⟨x0, x1, xf⟩ := BlkAt.c2 hC.2.2.1
          go_wp2_with fail
          exact hK _ _ (Fr.refl _ _) hC rfl
        · rw [if_neg (by decide)]; intro kq
          exact calm_mv 0 rfl rfl (Or.inl rfl) (Fr.refl _) (by decide) fun v w hd => hd
        · rw [if_neg (by decide)]; intro kq
          intro a W K hC hd hK
          have d5 : a.tmps[5]?.getD undef = .pointer (some ⟨w.heap.size + 1, 0, none⟩) := hd 5 (by decide)
          refine wpOp_plain rfl rfl ?_
          obtain ⟨z0, z1, z2, z3, z4, z5, z6, z7, z8, z9, z10, zf⟩ := BlkAt.c11 hC.2.1
          obtain ⟨x0, x1, xf⟩ := BlkAt.c2 hC.2.2.1
          go_wp2_with fail
          exact hK _ _ (Fr.refl _ _) hC rfl
        · rw [if_neg (by decide)]; intro kq
          intro a W K hC hd hK
          have d38 : _ = _ := hd 38 (by decide)
          refine wpOp_plain rfl rfl ?_
          obtain ⟨z0, z1, z2, z3, z4, z5, z6, z7, z8, z9, z10, zf⟩ := BlkAt.c11 hC.2.1
          obtain ⟨x0, x1, xf⟩ := BlkAt.c2 hC.2.2.1
          go_wp2_with fail
          exact hK _ _ (Fr.refl _ _) hC rfl
        · rw [if_pos (by decide)]
          intro a W K hC hd hK
          replace hC : (fun q W => Fr (orB (cutU U w.heap.size w6.heap.size) (w.heap.size + 2)) w6 W ∧ BlkAt W (w.heap.size + 1) 57 #[.int .u8 ak, .int .u64 op, .int .u64 view, .int .u8 cl, .int .u64 num, .int .u8 k, .string oa, .string ob, .int .u8 on, .int .u8 or, .int .u64 an] ∧ BlkAt W g 54 #[.int .u64 b, .slice B m d] ∧ P7 (cutU U w.heap.size w6.heap.size) p b b (w.heap.size + 2) es es1 (.slice B m d) q W) 0 W := hC
          have d37 : a.tmps[37]?.getD undef = .pointer (some ⟨p, 0, none⟩) := hd 37 (by decide)
          have d39 : _ = _ := hd 39 (by decide)
          refine wpOp_plain rfl rfl ?_
          obtain ⟨z0, z1, z2, z3, z4, z5, z6, z7, z8, z9, z10, zf⟩ := BlkAt.c11 hC.2.1
          obtain ⟨x0, x1, xf⟩ := BlkAt.c2 hC.2.2.1
          go_wp2_with fail
          refine (hap W _ hC.2.2.2.2.2 hC.2.2.2.1 (fun k hk => Or.inr (Nat.le_trans hC.1.size hk))).mono ?_
          rintro e9 w9 ⟨rfl, hL9, f9⟩
          replace f9 : Fr (cutU U w.heap.size w6.heap.size) W w9 := f9
          have fo := f9.mono (T := orB (cutU U w.heap.size w6.heap.size) (w.heap.size + 2)) (fun _ _ h => Or.inl h)
          exact hK _ _ fo ⟨hC.1.then' fo, hC.2.1.fr f9 (fun h => by rcases h with h | h <;> omega), hC.2.2.1.fr f9 (fun h => by rcases h with h | h <;> omega), hL9, hC.2.2.2.2.1.fr f9 (fun h => by rcases h with h | h <;> omega)⟩ rfl
        · rw [if_neg (by decide)]; intro kq
          exact calm_mv 9 rfl rfl (Or.inl rfl) (Fr.refl _) (by decide) fun v w hd => hd
        · rw [if_neg (by decide)]; intro kq
          intro a W K hC hd hK
          have d40 : a.tmps[40]?.getD undef = .int .i64 r1 := hd 40 (by decide)
          have d41 : a.tmps[41]?.getD undef = .int .i64 r1 := hd 41 (by decide)
          refine wpOp_plain rfl rfl ?_
          go_wp2_with fail
          exact hK _ _ (Fr.refl _ _) hC rfl
        · rw [if_pos (by decide)]
          intro a W K hC hd hK
          replace hC : (fun q W => Fr (orB (cutU U w.heap.size w6.heap.size) (w.heap.size + 2)) w6 W ∧ BlkAt W (w.heap.size + 1) 57 #[.int .u8 ak, .int .u64 op, .int .u64 view, .int .u8 cl, .int .u64 num, .int .u8 k, .string oa, .string ob, .int .u8 on, .int .u8 or, .int .u64 an] ∧ BlkAt W g 54 #[.int .u64 b, .slice B m d] ∧ P7 (cutU U w.heap.size w6.heap.size) p b b (w.heap.size + 2) es es1 (.slice B m d) q W) 1 W := hC
          have d6 : a.tmps[6]?.getD undef = .pointer (some ⟨w.heap.size + 2, 0, none⟩) := hd 6 (by decide)
          have d36 : a.tmps[36]?.getD undef = .agg #[.int .u64 b, .slice B m d] := hd 36 (by decide)
          refine wpOp_plain rfl rfl ?_
          obtain ⟨z0, z1, z2, z3, z4, z5, z6, z7, z8, z9, z10, zf⟩ := BlkAt.c11 hC.2.1
          obtain ⟨x0, x1, xf⟩ := BlkAt.c2 hC.2.2.1
          have hb9 := hC.2.2.2.2
          obtain ⟨y0, y1, yf⟩ := BlkAt.c2 hb9
          have hset := (hb9.set 0 (.int .u64 b)).set 1 (.slice B m d)
          have fs : Fr (eqB (w.heap.size + 2)) W ((W.setCell ⟨w.heap.size + 2, 0, none⟩ (.int .u64 b)).setCell ⟨w.heap.size + 2, 1, none⟩ (.slice B m d)) := (fr_set1 W _ 0 _).then' (fr_set1 _ _ 1 _)
          have fo := fs.mono (T := orB (cutU U w.heap.size w6.heap.size) (w.heap.size + 2)) (fun _ _ h => Or.inr h)
          go_wp2_with fail
          exact hK undef _ fo ⟨hC.1.then' fo, hC.2.1.fr fs (by unfold eqB; omega), hC.2.2.1.fr fs (by unfold eqB; omega), hC.2.2.2.1.fr fs (fun k hk h1 h2 => by unfold eqB at h2; rcases h1 with h1 | h1 <;> omega), hset⟩ trivial
        · rw [if_neg (by decide)]; intro kq
          exact calm_mv 42 rfl rfl (Or.inr rfl) (Fr.refl _) (by decide) fun v w hd => hd
      · intro vs w7 fw7 cw7 hV
        have v36 : vs 0 = .agg #[.int .u64 b, .slice B m d] := hV 0 _ _ rfl rfl (by decide)
        have v37 : vs 1 = .pointer (some ⟨p, 0, none⟩) := hV 1 _ _ rfl rfl (by decide)
        have v38 : vs 2 = _ := hV 2 _ _ rfl rfl (by decide)
        have v39 : vs 3 = _ := hV 3 _ _ rfl rfl (by decide)
        have v40 : vs 4 = .int .i64 r1 := hV 4 _ _ rfl rfl (by decide)
        have v41 : vs 5 = .int .i64 r1 := hV 5 _ _ rfl rfl (by decide)
        have v42 : vs 6 = .bool true := hV 6 _ _ rfl rfl (by decide)
        have v7 : vs 8 = .bool true := hV 8 _ _ rfl rfl (by decide)
        clear hV
        simp only [putL, Act.put, Nat.reduceAdd, List.setIfInBounds_toArray, List.set_cons_zero, List.set_cons_succ, v36, v37, v38, v39, v40, v41, v42, v7]
        obtain ⟨y0, y1, yf⟩ := BlkAt.c2 cw7.2.2.2.2
        have hL7 := cw7.2.2.2.1
        clear cw7
        go_wp2_with fail
        have hr := hr.out
        have hpost := playPost_of (q := (b, es1)) (U := U) (p := p) hlt hUA F6 fw7 (by omega) rfl ⟨hrow.1, hrow.2.low hs5⟩ (fun hBA ad e => by rcases hrow.2 with h1 | h1; exact absurd h1 hBA; have := (h1 ad e).1; omega) hL7
        exact bodyPost_ret (v := .tuple #[.agg #[.int .u64 b, .slice B m d], .bool true]) (by simp [results, hr, go_sem, y0, y1]) rfl (by rw [HV.out]; exact hpost)

  · -- Append(E as the next one)
    rw [if_neg (by decide), if_pos rfl] at HV
    obtain ⟨y0, y1, yf⟩ := BlkAt.c2 hb4
    go_wp2_with fail
    refine (lastR_calls wa b n c A (by have := HLA.out; omega)).mono ?_
    rintro ed w4 ⟨rfl, f4⟩
    rw [hcl]
    clear y0 y1 yf
    replace hb4 := hb4.fr f4 id
    replace hb5 := hb5.fr f4 id
    replace hb6 := hb6.fr f4 id
    have F4 := f0.then' f4
    clear z0 z1 z2 z3 z4 z5 z6 z7 z8 z9 z10 zf f0 f4
    obtain ⟨z0, z1, z2, z3, z4, z5, z6, z7, z8, z9, z10, zf⟩ := BlkAt.c11 hb5
    obtain ⟨o1, ho1⟩ : ∃ o1, b + n + 1 = o1 := ⟨_, rfl⟩
    rw [ho1] at HV
    have hwo : IntKind.u64.wrap ((b : Int) + n + 1) = o1 := by have := HLA.out; rw [IntKind.wrap_u64]; omega
    have hlo : lastL b es + 1 = o1 := by rw [HLA.out, ho1]
    have ho2 : o1 < 18446744073709551616 := by have := HLA.out; omega
    have fs := fr_set1 w4 (w.heap.size + 1) 1 (.int .u64 o1)
    have F5 : Fr noB w (w4.setCell ⟨w.heap.size + 1, 1, none⟩ (.int .u64 o1)) := F4.trans fs (fun i hi h => by unfold eqB at h; omega)
    replace hb4 := hb4.fr fs (by unfold eqB; omega)
    replace hb6 := hb6.fr fs (by unfold eqB; omega)
    have hb5s : BlkAt (w4.setCell ⟨w.heap.size + 1, 1, none⟩ (.int .u64 o1)) (w.heap.size + 1) 57 #[.int .u8 ak, .int .u64 o1, .int .u64 view, .int .u8 cl, .int .u64 num, .int .u8 k, .string oa, .string ob, .int .u8 on, .int .u8 or, .int .u64 an] := hb5.set 1 (.int .u64 o1)
    clear hb5 F4 fs
    go_upto_region 6 with fail
    clear z0 z1 z2 z3 z4 z5 z6 z7 z8 z9 z10 zf
    generalize (w4.setCell ⟨w.heap.size + 1, 1, none⟩ (.int .u64 o1)) = w5 at *
    have hb5 := hb5s
    clear hb5s
    have hwe : EnV.wf ⟨o1, view, cl, num, ⟨k, oa, ob, on, or⟩⟩ := hke.op' (by omega)
    have hap := fun W U' h1 h2 h3 => appL_calls W U' p b es ⟨o1, view, cl, num, ⟨k, oa, ob, on, or⟩⟩ h1 h2 h3 hG hwe ha hb
    have har := fun W h1 => appR_calls W b n c A es ⟨o1, view, cl, num, ⟨k, oa, ob, on, or⟩⟩ h1 hG hwe ha hb
    have hrf := fun W => ref19_calls W ⟨o1, view, cl, num, ⟨k, oa, ob, on, or⟩⟩
    unfold EnV.v at hap har hrf
    simp only [] at hap har hrf HV
    obtain ⟨es1, r1, hres⟩ : ∃ es1 r1, appL b es ⟨o1, view, cl, num, ⟨k, oa, ob, on, or⟩⟩ = (es1, r1) := ⟨_, _, rfl⟩
    rw [hres] at hap har HV
    simp only [] at hap har HV
    have hs5 := F5.size
    have hlt5 := hb6.lt
    have hR5 := hR.fr0 F5
    have hA5 : ∀ ad, A = some ad → ad.block < w5.heap.size := fun ad e => by have := hlt ad e; omega
    have hlow : LowOr w5.heap.size 54 w5 A := fun ad e => Or.inl (hA5 ad e)
    apply H.wp_region_calmL (R := RT w5.heap.size 54) (C := fun q ν W => RT w5.heap.size 54 w5 W ∧ BlkAt W w.heap.size 54 #[.int .u64 b, .slice A n c] ∧ BlkAt W (w.heap.size + 1) 57 #[.int .u8 ak, .int .u64 o1, .int .u64 view, .int .u8 cl, .int .u64 num, .int .u8 k, .string oa, .string ob, .int .u8 on, .int .u8 or, .int .u64 an] ∧ VarC w5 A b es1 q (ν 8) W) [false, false, false, false, false, false, false, false, true, true, false] [0, 0, 0, 0, 0, 0, 0, 0, 0, 1, 2]
      [eqv _, eqv _, eqv _, eqv _, TupS w5 A hA5 b r1 es1, TupS w5 A hA5 b r1 es1, AggS w5 A hA5 b es1, eqv (.int .i64 r1), anyv, anyv, eqv (.int .i64 r1)]
      (by kernel_rfl) (by kernel_rfl) (fun _ _ _ h1 h2 => RT.trans h1 h2) (RT.drewR _ _ _) ⟨RT.drewR _ _ _, hb4, hb5, trivial⟩ (by kernel_rfl)
    · refine ⟨?_, ?_, ?_, ?_, ?_, ?_, ?_, ?_, ?_, ?_, ?_, trivial⟩
      · rw [if_neg (by decide)]; intro kq
        intro a W K hC hd hK
        have d4 : a.tmps[4]?.getD undef = .pointer (some ⟨w.heap.size, 0, none⟩) := hd 4 (by decide)
        refine wpOp_plain rfl rfl ?_
        obtain ⟨z0, z1, z2, z3, z4, z5, z6, z7, z8, z9, z10, zf⟩ := BlkAt.c11 hC.2.2.1
        obtain ⟨x0, x1, xf⟩ := BlkAt.c2 hC.2.1
        go_wp2_with fail
        exact hK _ _ (RT.of (Fr.refl noB _)) hC rfl
      · rw [if_neg (by decide)]; intro kq
        intro a W K hC hd hK
        have d5 : a.tmps[5]?.getD undef = .pointer (some ⟨w.heap.size + 1, 0, none⟩) := hd 5 (by decide)
        refine wpOp_plain rfl rfl ?_
        obtain ⟨z0, z1, z2, z3, z4, z5, z6, z7, z8, z9, z10, zf⟩ := BlkAt.c11 hC.2.2.1
        obtain ⟨x0, x1, xf⟩ := BlkAt.c2 hC.2.1
        go_wp2_with fail
        exact hK _ _ (RT.of (Fr.refl noB _)) hC rfl
      · rw [if_neg (by decide)]; intro kq
        intro a W K hC hd hK
        have d30 : _ = _ := hd 30 (by decide)
        refine wpOp_plain rfl rfl ?_
        obtain ⟨z0, z1, z2, z3, z4, z5, z6, z7, z8, z9, z10, zf⟩ := BlkAt.c11 hC.2.2.1
        obtain ⟨x0, x1, xf⟩ := BlkAt.c2 hC.2.1
        go_wp2_with fail
        exact hK _ _ (RT.of (Fr.refl noB _)) hC rfl
      · rw [if_neg (by decide)]; intro kq
        intro a W K hC hd hK
        have d31 : _ = _ := hd 31 (by decide)
        refine wpOp_plain rfl rfl ?_
        obtain ⟨z0, z1, z2, z3, z4, z5, z6, z7, z8, z9, z10, zf⟩ := BlkAt.c11 hC.2.2.1
        obtain ⟨x0, x1, xf⟩ := BlkAt.c2 hC.2.1
        go_wp2_with fail
        refine (hrf W).mono ?_
        rintro e9 w9 ⟨rfl, f9⟩
        exact hK _ _ (RT.of f9) ⟨RT.trans hC.1 (RT.of f9), hC.2.1.fr f9 id, hC.2.2.1.fr f9 id, hC.2.2.2.fr0 f9⟩ rfl
      · rw [if_neg (by decide)]; intro kq
        intro a W K hC hd hK
        have d29 : _ = _ := hd 29 (by decide)
        have d32 : _ = _ := hd 32 (by decide)
        refine wpOp_plain rfl rfl ?_
        obtain ⟨z0, z1, z2, z3, z4, z5, z6, z7, z8, z9, z10, zf⟩ := BlkAt.c11 hC.2.2.1
        obtain ⟨x0, x1, xf⟩ := BlkAt.c2 hC.2.1
        go_wp2_with fail
        refine (har W (hR5.keep hlow hC.1)).mono ?_
        rintro e9 w9 ⟨B9, m9, d9, rfl, hR9, hP9, f9⟩
        exact hK _ _ (RT.of f9) ⟨RT.trans hC.1 (RT.of f9), hC.2.1.fr f9 id, hC.2.2.1.fr f9 id, hC.2.2.2.fr0 f9⟩ ⟨B9, m9, d9, rfl, hR9, hP9.low hC.1.size⟩
      · rw [if_neg (by decide)]; intro kq
        exact H.calm_mv 33 rfl rfl (Or.inl rfl) (fun _ _ _ h => h) (fun W => RT.of (Fr.refl noB W)) (by decide) fun v w hd => hd
      · rw [if_neg (by decide)]; intro kq
        intro a W K hC hd hK
        have d28 : (TupS w5 A hA5 b r1 es1).V (a.tmps[28]?.getD undef) W := hd 28 (by decide)
        refine wpOp_plain rfl rfl ?_
        obtain ⟨B9, m9, d9, d28, hrow⟩ := d28
        go_wp2_with fail
        exact hK _ _ (RT.of (Fr.refl noB _)) hC ⟨B9, m9, d9, rfl, hrow⟩
      · rw [if_neg (by decide)]; intro kq
        intro a W K hC hd hK
        have d28 : (TupS w5 A hA5 b r1 es1).V (a.tmps[28]?.getD undef) W := hd 28 (by decide)
        refine wpOp_plain rfl rfl ?_
        obtain ⟨B9, m9, d9, d28, hrow⟩ := d28
        go_wp2_with fail
        exact hK _ _ (RT.of (Fr.refl noB _)) hC rfl
      · rw [if_pos (by decide)]
        intro a W K hC hd hK
        replace hC : (fun q ν W => RT w5.heap.size 54 w5 W ∧ BlkAt W w.heap.size 54 #[.int .u64 b, .slice A n c] ∧ BlkAt W (w.heap.size + 1) 57 #[.int .u8 ak, .int .u64 o1, .int .u64 view, .int .u8 cl, .int .u64 num, .int .u8 k, .string oa, .string ob, .int .u8 on, .int .u8 or, .int .u64 an] ∧ VarC w5 A b es1 q (ν 8) W) 0 (fun t => a.eval (.tmp t)) W := hC
        refine wpOp_plain rfl rfl ?_
        have hn8 := BlkAt.new W #[.int .u64 0, .slice none 0 0] 54
        have fa := (Fr.refl noB W).alloc (.cells #[.int .u64 0, .slice none 0 0] 54)
        go_wp2_with fail
        exact hK _ _ (RT.of fa) ⟨RT.trans hC.1 (RT.of fa), hC.2.1.fr fa id, hC.2.2.1.fr fa id, W.heap.size, rfl, hC.1.size, hn8⟩ trivial
      · rw [if_pos (by decide)]
        intro a W K hC hd hK
        replace hC : (fun q ν W => RT w5.heap.size 54 w5 W ∧ BlkAt W w.heap.size 54 #[.int .u64 b, .slice A n c] ∧ BlkAt W (w.heap.size + 1) 57 #[.int .u8 ak, .int .u64 o1, .int .u64 view, .int .u8 cl, .int .u64 num, .int .u8 k, .string oa, .string ob, .int .u8 on, .int .u8 or, .int .u64 an] ∧ VarC w5 A b es1 q (ν 8) W) 1 (fun t => a.eval (.tmp t)) W := hC
        have d8 : (anyv).V (a.tmps[8]?.getD undef) W := hd 8 (by decide)
        have d34 : (AggS w5 A hA5 b es1).V (a.tmps[34]?.getD undef) W := hd 34 (by decide)
        refine wpOp_plain rfl rfl ?_
        obtain ⟨z0, z1, z2, z3, z4, z5, z6, z7, z8, z9, z10, zf⟩ := BlkAt.c11 hC.2.2.1
        obtain ⟨x0, x1, xf⟩ := BlkAt.c2 hC.2.1
        obtain ⟨B9, m9, d9, d34, hrow⟩ := d34
        obtain ⟨g9, e9, hg9, hb9⟩ := hC.2.2.2
        have d8' : a.tmps[8]?.getD undef = .pointer (some ⟨g9, 0, none⟩) := by rw [← eval_get]; exact e9
        obtain ⟨y0, y1, yf⟩ := BlkAt.c2 hb9
        have hset := (hb9.set 0 (.int .u64 b)).set 1 (.slice B9 m9 d9)
        have fs : RT w5.heap.size 54 W ((W.setCell ⟨g9, 0, none⟩ (.int .u64 b)).setCell ⟨g9, 1, none⟩ (.slice B9 m9 d9)) := RT.trans (RT.set hb9 hg9 0 (.int .u64 b)) (RT.set (hb9.set 0 (.int .u64 b)) hg9 1 (.slice B9 m9 d9))
        go_wp2_with fail
        exact hK undef _ fs ⟨RT.trans hC.1 fs, hC.2.1.fr fs (fun ⟨h, _⟩ => by omega), hC.2.2.1.fr fs (fun ⟨h, _⟩ => by omega), g9, B9, m9, d9, e9, hg9, hset, hrow.keep hA5 fs⟩ trivial
      · rw [if_neg (by decide)]; intro kq
        exact H.calm_mv 35 rfl rfl (Or.inr rfl) (fun _ _ _ h => h) (fun W => RT.of (Fr.refl noB W)) (by decide) fun v w hd => hd
    · intro vs w6 fw6 cw6 hV
      have v29 : vs 0 = _ := hV 0 _ _ rfl rfl (by decide)
      have v30 : vs 1 = _ := hV 1 _ _ rfl rfl (by decide)
      have v31 : vs 2 = _ := hV 2 _ _ rfl rfl (by decide)
      have v32 : vs 3 = _ := hV 3 _ _ rfl rfl (by decide)
      have v33 : (TupS w5 A hA5 b r1 es1).V (vs 4) w6 := hV 4 _ _ rfl rfl (by decide)
      have v28 : (TupS w5 A hA5 b r1 es1).V (vs 5) w6 := hV 5 _ _ rfl rfl (by decide)
      have v34 : (AggS w5 A hA5 b es1).V (vs 6) w6 := hV 6 _ _ rfl rfl (by decide)
      have v35 : vs 7 = .int .i64 r1 := hV 7 _ _ rfl rfl (by decide)
      have v8 : (anyv).V (vs 8) w6 := hV 8 _ _ rfl rfl (by decide)
      have v9 : vs 10 = .int .i64 r1 := hV 10 _ _ rfl rfl (by decide)
      clear hV
      simp only [putL, Act.put, Nat.reduceAdd, List.setIfInBounds_toArray, List.set_cons_zero, List.set_cons_succ, v29, v30, v31, v32, v35, v9]
      obtain ⟨g, B, m, d, e8, hg, hbg, hrow⟩ := cw6.2.2.2
      have e8' : vs 8 = .pointer (some ⟨g, 0, none⟩) := e8
      have hb56 := cw6.2.2.1
      have hb66 := hb6.fr fw6 (fun ⟨h, _⟩ => by omega)
      have F6 : Fr noB w w6 := RT.noB F5 fw6 hs5
      have hL6 : LogA w6 (cutU U w.heap.size w6.heap.size) p b es := (h.mono (V := cutU U w.heap.size w6.heap.size) fun k hk hu => Or.inl ⟨hu, hk⟩).fr0 F6
      have ht6 := ht.fr0 F6
      have hgl := hbg.lt
      have hs6 : w5.heap.size ≤ w6.heap.size := Fr.size fw6
      rw [e8']
      clear e8 e8' cw6
      go_wp2_with fail
      apply wp_region_calm (R := Fr (orB (cutU U w.heap.size w6.heap.size) (w.heap.size + 2))) (C := fun q W => Fr (orB (cutU U w.heap.size w6.heap.size) (w.heap.size + 2)) w6 W ∧ BlkAt W (w.heap.size + 1) 57 #[.int .u8 ak, .int .u64 o1, .int .u64 view, .int .u8 cl, .int .u64 num, .int .u8 k, .string oa, .string ob, .int .u8 on, .int .u8 or, .int .u64 an] ∧ BlkAt W g 54 #[.int .u64 b, .slice B m d] ∧ P7 (cutU U w.heap.size w6.heap.size) p b b (w.heap.size + 2) es es1 (.slice B m d) q W) [false, false, false, false, true, false, false, true, false]
        [eqv (.agg #[.int .u64 b, .slice B m d]), eqv (.pointer (some ⟨p, 0, none⟩)), eqv _, eqv _, eqv (.int .i64 r1), eqv (.int .i64 r1), eqv (.bool true), anyv, eqv (.bool true)]
        (by kernel_rfl) (by kernel_rfl) (fun _ _ _ h1 h2 => h1.then' h2) ((Fr.refl _ _).drew) ⟨(Fr.refl _ _).drew, hb56, hbg, hL6, hb66, ht6⟩ (by kernel_rfl)
      · refine ⟨?_, ?_, ?_, ?_, ?_, ?_, ?_, ?_, ?_, trivial⟩
        · rw [if_neg (by decide)]; intro kq
          intro a W K hC hd hK
          have d8 : a.tmps[8]?.getD undef = .pointer (some ⟨g, 0, none⟩) := hd 8 (by decide)
          refine wpOp_plain rfl rfl ?_
          obtain ⟨z0, z1, z2, z3, z4, z5, z6, z7, z8, z9, z10, zf⟩ := BlkAt.c11 hC.2.1
          obtain ⟨x0, x1, xf⟩ := BlkAt.c2 hC.2.2.1
          go_wp2_with fail
          exact hK _ _ (Fr.refl _ _) hC rfl
        · rw [if_neg (by decide)]; intro kq
          exact calm_mv 0 rfl rfl (Or.inl rfl) (Fr.refl _) (by decide) fun v w hd => hd
        · rw [if_neg (by decide)]; intro kq
          intro a W K hC hd hK
          have d5 : a.tmps[5]?.getD undef = .pointer (some ⟨w.heap.size + 1, 0, none⟩) := hd 5 (by decide)
          refine wpOp_plain rfl rfl ?_
          obtain ⟨z0, z1, z2, z3, z4, z5, z6, z7, z8, z9, z10, zf⟩ := BlkAt.c11 hC.2.1
          obtain ⟨x0, x1, xf⟩ := BlkAt.c2 hC.2.2.1
          go_wp2_with fail
          exact hK _ _ (Fr.refl _ _) hC rfl
        · rw [if_neg (by decide)]; intro kq
          intro a W K hC hd hK
          have d38 : _ = _ := hd 38 (by decide)
          refine wpOp_plain rfl rfl ?_
          obtain ⟨z0, z1, z2, z3, z4, z5, z6, z7, z8, z9, z10, zf⟩ := BlkAt.c11 hC.2.1
          obtain ⟨x0, x1, xf⟩ := BlkAt.c2 hC.2.2.1
          go_wp2_with fail
          exact hK _ _ (Fr.refl _ _) hC rfl
        · rw [if_pos (by decide)]
          intro a W K hC hd hK
          replace hC : (fun q W => Fr (orB (cutU U w.heap.size w6.heap.size) (w.heap.size + 2)) w6 W ∧ BlkAt W (w.heap.size + 1) 57 #[.int .u8 ak, .int .u64 o1, .int .u64 view, .int .u8 cl, .int .u64 num, .int .u8 k, .string oa, .string ob, .int .u8 on, .int .u8 or, .int .u64 an] ∧ BlkAt W g 54 #[.int .u64 b, .slice B m d] ∧ P7 (cutU U w.heap.size w6.heap.size) p b b (w.heap.size + 2) es es1 (.slice B m d) q W) 0 W := hC
          have d37 : a.tmps[37]?.getD undef = .pointer (some ⟨p, 0, none⟩) := hd 37 (by decide)
          have d39 : _ = _ := hd 39 (by decide)
          refine wpOp_plain rfl rfl ?_
          obtain ⟨z0, z1, z2, z3, z4, z5, z6, z7, z8, z9, z10, zf⟩ := BlkAt.c11 hC.2.1
          obtain ⟨x0, x1, xf⟩ := BlkAt.c2 hC.2.2.1
          go_wp2_with fail
          refine (hap W _ hC.2.2.2.2.2 hC.2.2.2.1 (fun k hk => Or.inr (Nat.le_trans hC.1.size hk))).mono ?_
          rintro e9 w9 ⟨rfl, hL9, f9⟩
          replace f9 : Fr (cutU U w.heap.size w6.heap.size) W w9 := f9
          have fo := f9.mono (T := orB (cutU U w.heap.size w6.heap.size) (w.heap.size + 2)) (fun _ _ h => Or.inl h)
          exact hK _ _ fo ⟨hC.1.then' fo, hC.2.1.fr f9 (fun h => by rcases h with h | h <;> omega), hC.2.2.1.fr f9 (fun h => by rcases h with h | h <;> omega), hL9, hC.2.2.2.2.1.fr f9 (fun h => by rcases h with h | h <;> omega)⟩ rfl
        · rw [if_neg (by decide)]; intro kq
          exact calm_mv 9 rfl rfl (Or.inl rfl) (Fr.refl _) (by decide) fun v w hd => hd
        · rw [if_neg (by decide)]; intro kq
          intro a W K hC hd hK
          have d40 : a.tmps[40]?.getD undef = .int .i64 r1 := hd 40 (by decide)
          have d41 : a.tmps[41]?.getD undef = .int .i64 r1 := hd 41 (by decide)
          refine wpOp_plain rfl rfl ?_
          go_wp2_with fail
          exact hK _ _ (Fr.refl _ _) hC rfl
        · rw [if_pos (by decide)]
          intro a W K hC hd hK
          replace hC : (fun q W => Fr (orB (cutU U w.heap.size w6.heap.size) (w.heap.size + 2)) w6 W ∧ BlkAt W (w.heap.size + 1) 57 #[.int .u8 ak, .int .u64 o1, .int .u64 view, .int .u8 cl, .int .u64 num, .int .u8 k, .string oa, .string ob, .int .u8 on, .int .u8 or, .int .u64 an] ∧ BlkAt W g 54 #[.int .u64 b, .slice B m d] ∧ P7 (cutU U w.heap.size w6.heap.size) p b b (w.heap.size + 2) es es1 (.slice B m d) q W) 1 W := hC
          have d6 : a.tmps[6]?.getD undef = .pointer (some ⟨w.heap.size + 2, 0, none⟩) := hd 6 (by decide)
          have d36 : a.tmps[36]?.getD undef = .agg #[.int .u64 b, .slice B m d] := hd 36 (by decide)
          refine wpOp_plain rfl rfl ?_
          obtain ⟨z0, z1, z2, z3, z4, z5, z6, z7, z8, z9, z10, zf⟩ := BlkAt.c11 hC.2.1
          obtain ⟨x0, x1, xf⟩ := BlkAt.c2 hC.2.2.1
          have hb9 := hC.2.2.2.2
          obtain ⟨y0, y1, yf⟩ := BlkAt.c2 hb9
          have hset := (hb9.set 0 (.int .u64 b)).set 1 (.slice B m d)
          have fs : Fr (eqB (w.heap.size + 2)) W ((W.setCell ⟨w.heap.size + 2, 0, none⟩ (.int .u64 b)).setCell ⟨w.heap.size + 2, 1, none⟩ (.slice B m d)) := (fr_set1 W _ 0 _).then' (fr_set1 _ _ 1 _)
          have fo := fs.mono (T := orB (cutU U w.heap.size w6.heap.size) (w.heap.size + 2)) (fun _ _ h => Or.inr h)
          go_wp2_with fail
          exact hK undef _ fo ⟨hC.1.then' fo, hC.2.1.fr fs (by unfold eqB; omega), hC.2.2.1.fr fs (by unfold eqB; omega), hC.2.2.2.1.fr fs (fun k hk h1 h2 => by unfold eqB at h2; rcases h1 with h1 | h1 <;> omega), hset⟩ trivial
        · rw [if_neg (by decide)]; intro kq
          exact calm_mv 42 rfl rfl (Or.inr rfl) (Fr.refl _) (by decide) fun v w hd => hd
      · intro vs w7 fw7 cw7 hV
        have v36 : vs 0 = .agg #[.int .u64 b, .slice B m d] := hV 0 _ _ rfl rfl (by decide)
        have v37 : vs 1 = .pointer (some ⟨p, 0, none⟩) := hV 1 _ _ rfl rfl (by decide)
        have v38 : vs 2 = _ := hV 2 _ _ rfl rfl (by decide)
        have v39 : vs 3 = _ := hV 3 _ _ rfl rfl (by decide)
        have v40 : vs 4 = .int .i64 r1 := hV 4 _ _ rfl rfl (by decide)
        have v41 : vs 5 = .int .i64 r1 := hV 5 _ _ rfl rfl (by decide)
        have v42 : vs 6 = .bool true := hV 6 _ _ rfl rfl (by decide)
        have v7 : vs 8 = .bool true := hV 8 _ _ rfl rfl (by decide)
        clear hV
        simp only [putL, Act.put, Nat.reduceAdd, List.setIfInBounds_toArray, List.set_cons_zero, List.set_cons_succ, v36, v37, v38, v39, v40, v41, v42, v7]
        obtain ⟨y0, y1, yf⟩ := BlkAt.c2 cw7.2.2.2.2
        have hL7 := cw7.2.2.2.1
        clear cw7
        go_wp2_with fail
        have hr := hr.out
        have hpost := playPost_of (q := (b, es1)) (U := U) (p := p) hlt hUA F6 fw7 (by omega) rfl ⟨hrow.1, hrow.2.low hs5⟩ (fun hBA ad e => by rcases hrow.2 with h1 | h1; exact absurd h1 hBA; have := (h1 ad e).1; omega) hL7
        exact bodyPost_ret (v := .tuple #[.agg #[.int .u64 b, .slice B m d], .bool true]) (by simp [results, hr, go_sem, y0, y1]) rfl (by rw [HV.out]; exact hpost)

  · -- Trim(N)
    rw [if_neg (by decide), if_neg (by decide), if_pos rfl] at HV
    have htr := trimR_calls wa b an n c A es (hR.fr0 f0) hG hkn
    have htl := fun W U' h1 h2 => trimL_calls W U' p b an es h1 h2 hG hkn
    obtain ⟨⟨b1, es1⟩, r1, hres⟩ : ∃ q r1, trimL b es an = (q, r1) := ⟨_, _, rfl⟩
    rw [hres] at HV htr htl
    simp only [] at HV htl
    obtain ⟨y0, y1, yf⟩ := BlkAt.c2 hb4
    go_wp2_with fail
    refine htr.mono ?_
    rintro ed w4 ⟨B, m, d, rfl, hR4, hP4, f4⟩
    simp only [] at hR4
    have hs5 := f0.size
    have fn : Fr noB w4 (w4.alloc (.cells #[.int .u64 b1, .slice B m d] 54)) := (Fr.refl noB w4).alloc _
    have hbg : BlkAt (w4.alloc (.cells #[.int .u64 b1, .slice B m d] 54)) w4.heap.size 54 #[.int .u64 b1, .slice B m d] := BlkAt.new _ _ _
    have hb56 := (hb5.fr f4 id).fr fn id
    have hb66 := (hb6.fr f4 id).fr fn id
    have F6 := (f0.then' f4).then' fn
    have hlt5 := hb6.lt
    have hrow : RowR wa A es1 B m d (w4.alloc (.cells #[.int .u64 b1, .slice B m d] 54)) := RowR.fr0 ⟨hR4, hP4⟩ fn
    have hg : wa.heap.size ≤ w4.heap.size := f4.size
    clear y0 y1 yf htr f4 fn
    go_upto_region 10 with fail
    clear z0 z1 z2 z3 z4 z5 z6 z7 z8 z9 z10 zf
    generalize (w4.alloc (.cells #[.int .u64 b1, .slice B m d] 54)) = w6 at *
    obtain ⟨g, hgg⟩ : ∃ g, w4.heap.size = g := ⟨_, rfl⟩
    rw [hgg] at hbg hg ⊢
    have hL6 : LogA w6 (cutU U w.heap.size w6.heap.size) p b es := (h.mono (V := cutU U w.heap.size w6.heap.size) fun k hk hu => Or.inl ⟨hu, hk⟩).fr0 F6
    have ht6 := ht.fr0 F6
    have hgl := hbg.lt
    have hpU : cutU U w.heap.size w6.heap.size p := by obtain ⟨A0, n0, c0, _, _, _, hup, _⟩ := hL6; exact hup
    clear hgg
    rw [show w.heap.size + 1 + 1 = w.heap.size + 2 from rfl]
    apply wp_region_calm (R := Fr (orB (cutU U w.heap.size w6.heap.size) (w.heap.size + 2))) (C := fun q W => Fr (orB (cutU U w.heap.size w6.heap.size) (w.heap.size + 2)) w6 W ∧ BlkAt W (w.heap.size + 1) 57 #[.int .u8 ak, .int .u64 op, .int .u64 view, .int .u8 cl, .int .u64 num, .int .u8 k, .string oa, .string ob, .int .u8 on, .int .u8 or, .int .u64 an] ∧ BlkAt W g 54 #[.int .u64 b1, .slice B m d] ∧ P7 (cutU U w.heap.size w6.heap.size) p b b1 (w.heap.size + 2) es es1 (.slice B m d) q W) [false, false, false, false, true, false, false, true, false]
      [eqv (.agg #[.int .u64 b1, .slice B m d]), eqv (.pointer (some ⟨p, 0, none⟩)), eqv _, eqv _, eqv (.int .i64 r1), eqv (.int .i64 r1), eqv (.bool true), anyv, eqv (.bool true)]
      (by kernel_rfl) (by kernel_rfl) (fun _ _ _ h1 h2 => h1.then' h2) ((Fr.refl _ _).drew) ⟨(Fr.refl _ _).drew, hb56, hbg, hL6, hb66, ht6⟩ (by kernel_rfl)
    · refine ⟨?_, ?_, ?_, ?_, ?_, ?_, ?_, ?_, ?_, trivial⟩
      · rw [if_neg (by decide)]; intro kq
        intro a W K hC hd hK
        have d10 : a.tmps[10]?.getD undef = .pointer (some ⟨g, 0, none⟩) := hd 10 (by decide)
        refine wpOp_plain rfl rfl ?_
        obtain ⟨z0, z1, z2, z3, z4, z5, z6, z7, z8, z9, z10, zf⟩ := BlkAt.c11 hC.2.1
        obtain ⟨x0, x1, xf⟩ := BlkAt.c2 hC.2.2.1
        go_wp2_with fail
        exact hK _ _ (Fr.refl _ _) hC rfl
      · rw [if_neg (by decide)]; intro kq
        exact calm_mv 0 rfl rfl (Or.inl rfl) (Fr.refl _) (by decide) fun v w hd => hd
      · rw [if_neg (by decide)]; intro kq
        intro a W K hC hd hK
        have d5 : a.tmps[5]?.getD undef = .pointer (some ⟨w.heap.size + 1, 0, none⟩) := hd 5 (by decide)
        refine wpOp_plain rfl rfl ?_
        obtain ⟨z0, z1, z2, z3, z4, z5, z6, z7, z8, z9, z10, zf⟩ := BlkAt.c11 hC.2.1
        obtain ⟨x0, x1, xf⟩ := BlkAt.c2 hC.2.2.1
        go_wp2_with fail
        exact hK _ _ (Fr.refl _ _) hC rfl
      · rw [if_neg (by decide)]; intro kq
        intro a W K hC hd hK
        have d54 : _ = _ := hd 54 (by decide)
        refine wpOp_plain rfl rfl ?_
        obtain ⟨z0, z1, z2, z3, z4, z5, z6, z7, z8, z9, z10, zf⟩ := BlkAt.c11 hC.2.1
        obtain ⟨x0, x1, xf⟩ := BlkAt.c2 hC.2.2.1
        go_wp2_with fail
        exact hK _ _ (Fr.refl _ _) hC rfl
      · rw [if_pos (by decide)]
        intro a W K hC hd hK
        replace hC : (fun q W => Fr (orB (cutU U w.heap.size w6.heap.size) (w.heap.size + 2)) w6 W ∧ BlkAt W (w.heap.size + 1) 57 #[.int .u8 ak, .int .u64 op, .int .u64 view, .int .u8 cl, .int .u64 num, .int .u8 k, .string oa, .string ob, .int .u8 on, .int .u8 or, .int .u64 an] ∧ BlkAt W g 54 #[.int .u64 b1, .slice B m d] ∧ P7 (cutU U w.heap.size w6.heap.size) p b b1 (w.heap.size + 2) es es1 (.slice B m d) q W) 0 W := hC
        have d53 : a.tmps[53]?.getD undef = .pointer (some ⟨p, 0, none⟩) := hd 53 (by decide)
        have d55 : _ = _ := hd 55 (by decide)
        refine wpOp_plain rfl rfl ?_
        obtain ⟨z0, z1, z2, z3, z4, z5, z6, z7, z8, z9, z10, zf⟩ := BlkAt.c11 hC.2.1
        obtain ⟨x0, x1, xf⟩ := BlkAt.c2 hC.2.2.1
        go_wp2_with fail
        refine (htl W _ hC.2.2.2.1 (fun k hk => Or.inr (Nat.le_trans hC.1.size hk))).mono ?_
        rintro e9 w9 ⟨rfl, hL9, f9⟩
        replace f9 : Fr (cutU U w.heap.size w6.heap.size) W w9 := f9.mono (fun k _ h => by unfold eqB at h; subst h; exact hpU)
        have fo := f9.mono (T := orB (cutU U w.heap.size w6.heap.size) (w.heap.size + 2)) (fun _ _ h => Or.inl h)
        exact hK _ _ fo ⟨hC.1.then' fo, hC.2.1.fr f9 (fun h => by rcases h with h | h <;> omega), hC.2.2.1.fr f9 (fun h => by rcases h with h | h <;> omega), hL9, hC.2.2.2.2.1.fr f9 (fun h => by rcases h with h | h <;> omega)⟩ rfl
      · rw [if_neg (by decide)]; intro kq
        exact calm_mv 11 rfl rfl (Or.inl rfl) (Fr.refl _) (by decide) fun v w hd => hd
      · rw [if_neg (by decide)]; intro kq
        intro a W K hC hd hK
        have d56 : a.tmps[56]?.getD undef = .int .i64 r1 := hd 56 (by decide)
        have d57 : a.tmps[57]?.getD undef = .int .i64 r1 := hd 57 (by decide)
        refine wpOp_plain rfl rfl ?_
        go_wp2_with fail
        exact hK _ _ (Fr.refl _ _) hC rfl
      · rw [if_pos (by decide)]
        intro a W K hC hd hK
        replace hC : (fun q W => Fr (orB (cutU U w.heap.size w6.heap.size) (w.heap.size + 2)) w6 W ∧ BlkAt W (w.heap.size + 1) 57 #[.int .u8 ak, .int .u64 op, .int .u64 view, .int .u8 cl, .int .u64 num, .int .u8 k, .string oa, .string ob, .int .u8 on, .int .u8 or, .int .u64 an] ∧ BlkAt W g 54 #[.int .u64 b1, .slice B m d] ∧ P7 (cutU U w.heap.size w6.heap.size) p b b1 (w.heap.size + 2) es es1 (.slice B m d) q W) 1 W := hC
        have d6 : a.tmps[6]?.getD undef = .pointer (some ⟨w.heap.size + 2, 0, none⟩) := hd 6 (by decide)
        have d52 : a.tmps[52]?.getD undef = .agg #[.int .u64 b1, .slice B m d] := hd 52 (by decide)
        refine wpOp_plain rfl rfl ?_
        obtain ⟨z0, z1, z2, z3, z4, z5, z6, z7, z8, z9, z10, zf⟩ := BlkAt.c11 hC.2.1
        obtain ⟨x0, x1, xf⟩ := BlkAt.c2 hC.2.2.1
        have hb9 := hC.2.2.2.2
        obtain ⟨y0, y1, yf⟩ := BlkAt.c2 hb9
        have hset := (hb9.set 0 (.int .u64 b1)).set 1 (.slice B m d)
        have fs : Fr (eqB (w.heap.size + 2)) W ((W.setCell ⟨w.heap.size + 2, 0, none⟩ (.int .u64 b1)).setCell ⟨w.heap.size + 2, 1, none⟩ (.slice B m d)) := (fr_set1 W _ 0 _).then' (fr_set1 _ _ 1 _)
        have fo := fs.mono (T := orB (cutU U w.heap.size w6.heap.size) (w.heap.size + 2)) (fun _ _ h => Or.inr h)
        go_wp2_with fail
        exact hK undef _ fo ⟨hC.1.then' fo, hC.2.1.fr fs (by unfold eqB; omega), hC.2.2.1.fr fs (by unfold eqB; omega), hC.2.2.2.1.fr fs (fun k hk h1 h2 => by unfold eqB at h2; rcases h1 with h1 | h1 <;> omega), hset⟩ trivial
      · rw [if_neg (by decide)]; intro kq
        exact calm_mv 58 rfl rfl (Or.inr rfl) (Fr.refl _) (by decide) fun v w hd => hd
    · intro vs w7 fw7 cw7 hV
      have v52 : vs 0 = .agg #[.int .u64 b1, .slice B m d] := hV 0 _ _ rfl rfl (by decide)
      have v53 : vs 1 = .pointer (some ⟨p, 0, none⟩) := hV 1 _ _ rfl rfl (by decide)
      have v54 : vs 2 = _ := hV 2 _ _ rfl rfl (by decide)
      have v55 : vs 3 = _ := hV 3 _ _ rfl rfl (by decide)
      have v56 : vs 4 = .int .i64 r1 := hV 4 _ _ rfl rfl (by decide)
      have v57 : vs 5 = .int .i64 r1 := hV 5 _ _ rfl rfl (by decide)
      have v58 : vs 6 = .bool true := hV 6 _ _ rfl rfl (by decide)
      have v7 : vs 8 = .bool true := hV 8 _ _ rfl rfl (by decide)
      clear hV
      simp only [putL, Act.put, Nat.reduceAdd, List.setIfInBounds_toArray, List.set_cons_zero, List.set_cons_succ, v52, v53, v54, v55, v56, v57, v58, v7]
      obtain ⟨y0, y1, yf⟩ := BlkAt.c2 cw7.2.2.2.2
      have hL7 := cw7.2.2.2.1
      clear cw7
      go_wp2_with fail
      have hr := hr.out
      have hpost := playPost_of (q := (b1, es1)) (U := U) (p := p) hlt hUA F6 fw7 (by omega) rfl ⟨hrow.1, hrow.2.low hs5⟩ (fun hBA ad e => by rcases hrow.2 with h1 | h1; exact absurd h1 hBA; have := (h1 ad e).1; omega) hL7
      exact bodyPost_ret (v := .tuple #[.agg #[.int .u64 b1, .slice B m d], .bool true]) (by simp [results, hr, go_sem, y0, y1]) rfl (by rw [HV.out]; exact hpost)

  · -- a copy goes on
    rw [if_neg (by decide), if_neg (by decide), if_neg (by decide)] at HV
    have hL0 := h.fr0 f0
    go_wp2_with fail
    refine (copyL_calls wa U p b es hL0 (by omega)).mono ?_
    rintro ed w1 ⟨q, rfl, hq1, f1⟩
    have F1 := f0.then' f1
    have hs0 := f0.size
    have hs1 := f1.size
    have hlast := fun W es h hl => lastL_calls W (upB wa.heap.size) q b es h hl
    have hone := fun W => one_calls W (lastL b es + 1)
    have hap := fun W h1 h2 h3 => appL_calls W (upB wa.heap.size) q b es (oneE (lastL b es + 1)) h1 h2 h3 hG (oneE_wf (by omega)) (by rw [oneE_a]; decide) (by rw [oneE_b]; decide)
    have hG1 : GoodL b (appL b es (oneE (lastL b es + 1))).1 := hG.app (oneE_wf (by omega))
    have hl1 := hlast w1 es hq1 (by omega)
    generalize lastL b es = la at *
    generalize appL b es (oneE (la + 1)) = ap at *
    obtain ⟨es1, r1⟩ := ap
    simp only [] at hap hG1
    have hl2 := hG1.last
    have hcl1 : ((la + 1 : Nat) : Int) = (la : Int) + 1 := by omega
    rw [hcl1] at hone
    generalize oneE (la + 1) = e1 at *
    obtain ⟨op1, view1, cl1, num1, ⟨k1, oa1, ob1, on1, or1⟩⟩ := e1
    unfold EnV.v at hone hap
    simp only [] at hone hap
    clear z0 z1 z2 z3 z4 z5 z6 z7 z8 z9 z10 zf
    go_wp2_with fail
    refine hl1.mono ?_
    rintro ed w2 ⟨rfl, f2⟩
    have F2 := F1.then' f2
    go_wp2_with fail
    refine (hone w2).mono ?_
    rintro ed w3 ⟨rfl, f3⟩
    have F3 := F2.then' f3
    have hq3 := (hq1.fr0 f2).fr0 f3
    have hs3 : wa.heap.size ≤ w3.heap.size := by have := f2.size; have := f3.size; omega
    clear hl1 hone
    go_wp2_with fail
    refine (hap w3 (ht.fr0 F3) hq3 (fun k hk => by unfold upB; omega)).mono ?_
    rintro ed w4 ⟨rfl, hq4, f4⟩
    have f14 : Fr noB wa w4 := ((f1.then' f2).then' f3).trans f4 (fun i hi h => by unfold upB at h; omega)
    have F4 := f0.then' f14
    clear hap f1 f2 f3 f4 F1 F2 F3 hq3 hq1
    go_wp2_with fail
    refine (hlast w4 es1 hq4 (by omega)).mono ?_
    rintro ed w5 ⟨rfl, f5⟩
    have htl := trimL_calls w5 (upB wa.heap.size) q b (lastL b es1) es1 (hq4.fr0 f5) (fun k hk => by have := f14.size; have := f5.size; unfold upB; omega) hG1 (by omega)
    go_wp2_with fail
    refine htl.mono ?_
    rintro ed w6 ⟨rfl, hq6, f6⟩
    have hqge : wa.heap.size ≤ q := by obtain ⟨A0, n0, c0, _, _, _, hup, _⟩ := hq6; exact hup
    have f16 : Fr noB wa w6 := (f14.then' f5).trans f6 (fun i hi h => by unfold eqB at h; omega)
    have F6 := f0.then' f16
    replace hb4 := hb4.fr f16 id
    replace hb6 := hb6.fr f16 id
    obtain ⟨x0, x1, xf⟩ := BlkAt.c2 hb4
    obtain ⟨y0, y1, yf⟩ := BlkAt.c2 hb6
    have fs : Fr (eqB (w.heap.size + 2)) w6 ((w6.setCell ⟨w.heap.size + 2, 0, none⟩ (.int .u64 b)).setCell ⟨w.heap.size + 2, 1, none⟩ (.slice A n c)) := (fr_set1 w6 _ 0 _).then' (fr_set1 _ _ 1 _)
    have FF : Fr noB w _ := F6.trans fs (fun i hi h => by unfold eqB at h; omega)
    clear htl hlast f14 F4 f5 f6 f16 hq4 hq6
    go_wp2_with fail
    have hr := hr.out
    exact bodyPost_ret (v := .tuple #[.agg #[.int .u64 b, .slice A n c], .bool true]) (by simp [results, hr, go_sem, y0, y1]) rfl (by
      rw [HV.out]
      exact ⟨A, n, c, rfl, hR.fr0 FF, Or.inl rfl, ((h.mono (V := fun k => (U k ∨ w.heap.size ≤ k) ∧ ∀ ad, A = some ad → k ≠ ad.block) fun k hk hu => ⟨Or.inl hu, fun ad e h2 => hUA ad e (h2 ▸ hu)⟩).fr0 FF), FF.mono fun _ _ h => h.elim⟩)
end Go.Proofs.YtcaihinenfnekaaDoor
/- interrexlaw20.LogPlays: the walk. -/
namespace Go.Proofs.YtcaihinenfnekaaDoor
open Go.RowKit
/-- The log's own blocks: neither the reference's variable nor its row. -/
def exP (p q : Nat) (A : Option Addr) : Nat → Prop := fun k => p ≤ k ∧ k ≠ q ∧ ∀ ad, A = some ad → k ≠ ad.block
theorem exP.mono {w : World} {p q b : Nat} {A B : Option Addr} {es : List EnV} {n0 : Nat} (h : LogA w (fun k => (exP p q A k ∨ n0 ≤ k) ∧ ∀ ad, B = some ad → k ≠ ad.block) p b es) (hp : p < n0) (hq : q < n0) : LogA w (exP p q B) p b es :=
  h.mono fun k _ ⟨h1, h2⟩ => ⟨by rcases h1 with h1 | h1; exact h1.1; omega, by rcases h1 with h1 | h1; exact h1.2.1; omega, h2⟩
/-- The state between two acts: the log at p, the reference's value in the variable at q. -/
structure MidL (w wr : World) (p q b n c : Nat) (A : Option Addr) (es : List EnV) : Prop where
  log : LogA wr (exP p q A) p b es
  good : GoodL b es
  var : BlkAt wr q 54 #[.int .u64 b, .slice A n c]
  ref : RefA wr A n c es
  lt : ∀ ad, A = some ad → ad.block < wr.heap.size ∧ ad.block ≠ q
  fr : Fr noB w wr
  pw : w.heap.size ≤ p
theorem MidL.step {w wr w1 : World} {p q b n c b' n' c' : Nat} {A B : Option Addr} {es es' : List EnV} (h : MidL w wr p q b n c A es) (hwq : w.heap.size ≤ q) (hR : RefA w1 B n' c' es') (hP : Placed wr w1 A B) (hL : LogA w1 (fun k => (exP p q A k ∨ wr.heap.size ≤ k) ∧ ∀ ad, B = some ad → k ≠ ad.block) p b' es') (f : Fr (exP p q A) wr w1) (hG : GoodL b' es') :
    MidL w ((w1.setCell ⟨q, 0, none⟩ (.int .u64 b')).setCell ⟨q, 1, none⟩ (.slice B n' c')) p q b' n' c' B es' := by
  have hq := h.var.lt
  have hp := h.log.lt
  have hb : BlkAt w1 q 54 #[.int .u64 b, .slice A n c] := h.var.fr f (fun h1 => h1.2.1 rfl)
  have hset := (hb.set 0 (.int .u64 b')).set 1 (.slice B n' c')
  have fs : Fr (eqB q) w1 ((w1.setCell ⟨q, 0, none⟩ (.int .u64 b')).setCell ⟨q, 1, none⟩ (.slice B n' c')) := (fr_set1 w1 q 0 _).then' (fr_set1 _ q 1 _)
  have hne : ∀ ad, B = some ad → ad.block ≠ q := fun ad e => by
    rcases hP with h1 | h1
    · exact (h.lt ad (h1 ▸ e)).2
    · have := (h1 ad e).1; omega
  have hlt := hP.lt f.size (fun ad e => (h.lt ad e).1)
  exact ⟨(exP.mono hL hp hq).fr fs (fun k _ h1 h2 => h1.2.1 h2), hG, hset, ⟨hR.len, hR.cap, hR.nil, hR.row.fr fs (fun ad e _ _ => hne ad e)⟩, fun ad e => ⟨Nat.lt_of_lt_of_le (hlt ad e) fs.size, hne ad e⟩,
    (h.fr.trans f (fun i hi h1 => by have := h1.1; have := h.pw; omega)).trans fs (fun i hi h1 => by unfold eqB at h1; omega), h.pw⟩
theorem MidL.fr0 {w wr w1 : World} {p q b n c : Nat} {A : Option Addr} {es : List EnV} (h : MidL w wr p q b n c A es) (f : Fr noB wr w1) : MidL w w1 p q b n c A es :=
  ⟨h.log.fr0 f, h.good, h.var.fr f id, h.ref.fr0 f, fun ad e => ⟨Nat.lt_of_lt_of_le (h.lt ad e).1 f.size, (h.lt ad e).2⟩, h.fr.then' f, h.pw⟩
theorem MidL.new {w w2 w3 : World} {p b : Nat} (hL : LogA w2 (upB p) p b []) (hG : GoodL b []) (f : Fr noB w w2) (hp : w.heap.size ≤ p) (h3 : w3 = w2.alloc (.cells #[.int .u64 b, .slice none 0 0] 54)) : MidL w w3 p w2.heap.size b 0 0 none [] := by
  subst h3
  have fa := (Fr.refl noB w2).alloc (.cells #[.int .u64 b, .slice none 0 0] 54)
  exact ⟨(hL.mono (V := exP p w2.heap.size none) fun k hk hu => ⟨hu, by omega, (fun ad e => by cases e)⟩).fr0 fa, hG, BlkAt.new _ _ _, RefA.none _, (fun ad e => by cases e), f.then' fa, hp⟩
theorem small_sizes {a : ActL} (h : a.small = true) : a.e.o.a.size ≤ 1000000000000 ∧ a.e.o.b.size ≤ 1000000000000 := by
  unfold ActL.small at h
  simp only [Bool.and_eq_true, decide_eq_true_eq] at h
  omega
set_option maxRecDepth 100000 in
set_option maxHeartbeats 3200000 in
theorem logPlays_walk (w : World) (ht : SignsAt w) (base : Nat) (A0 : Option Addr) (m cap : Nat) (L : List ActL) (hb : base < 18446744073709551616) (hrow : RowAt w A0 (L.flatMap ActL.C)) (HN : Hid (L.length = m)) (hnm : m ≤ 9223372036854775807) (hok : ∀ a ∈ L, a.ok) :
    Calls Tryd.prog 5 #[.int .u64 base, .slice A0 m cap] w (BoolPost w true) := by
  have hfew := fun W h => few20_calls W A0 cap m L h HN hnm
  cases hfl : fewL L with
  | false =>
    rw [hfl] at hfew
    clear hfl
    go_enter Tryd.func5, Tryd.ntmps5
    go_wp2_with fail
    refine (lives20_calls w ht).mono ?_
    rintro e w1 ⟨rfl, f1⟩
    go_wp2_with fail
    refine (hfew w1 (hrow.fr0 f1)).mono ?_
    rintro e w2 ⟨rfl, f2⟩
    have F2 := f1.then' f2
    go_wp2_with fail
    refine (lives20_calls w2 (ht.fr0 F2)).mono ?_
    rintro e w3 ⟨rfl, f3⟩
    go_wp2_with fail
    go_ret
    exact BoolPost.mk' rfl (F2.then' f3)
  | true =>
    rw [hfl] at hfew
    have hsm : ∀ a ∈ L, a.small = true := by
      unfold fewL at hfl
      simp only [Bool.and_eq_true, List.all_eq_true] at hfl
      exact hfl.1
    clear hfl
    obtain ⟨b0, hb0⟩ : ∃ b0, min base 1099511627776 = b0 := ⟨_, rfl⟩
    have hbl : b0 ≤ 1099511627776 := by omega
    have hnew := fun W => newL_calls W base
    rw [hb0] at hnew
    have hsel : (base < 1099511627776 ∧ b0 = base) ∨ (¬ base < 1099511627776 ∧ b0 = 1099511627776) := by omega
    go_enter Tryd.func5, Tryd.ntmps5
    go_wp2_with fail
    refine (lives20_calls w ht).mono ?_
    rintro e w1 ⟨rfl, f1⟩
    go_wp2_with fail
    refine (hfew w1 (hrow.fr0 f1)).mono ?_
    rintro e w2 ⟨rfl, f2⟩
    have F2 := f1.then' f2
    clear hfew f1 f2
    go_wp2_with fail
    refine (hnew w2).mono ?_
    rintro e w3 ⟨rfl, hL3, f3⟩
    have F3 := F2.then' f3
    have hp := F2.size
    obtain ⟨p, hpe⟩ : ∃ p, w2.heap.size = p := ⟨_, rfl⟩
    rw [hpe] at hL3 hp ⊢
    clear hnew F2 f3 hpe
    have hM := MidL.new hL3 (GoodL.new hbl) F3 hp rfl
    have hq := F3.size
    have hG0 : GoodL b0 [] := GoodL.new hbl
    clear hL3 F3
    have hc : (b0 : Int) = (if (1099511627776 : Int) < (base : Int) then (1099511627776 : Int) else (base : Int)) := by split <;> omega
    have hww : w3.alloc (.cells #[.int .u64 (b0 : Int), .slice none 0 0] 54) = w3.alloc (.cells #[.int .u64 (if (1099511627776 : Int) < (base : Int) then (1099511627776 : Int) else (base : Int)), .slice none 0 0] 54) := by rw [hc]
    rw [hww] at hM
    clear hb0 hc hww hsel
    go_upto_region 5 with fail
    generalize (w3.alloc (.cells #[.int .u64 (if (1099511627776 : Int) < (base : Int) then (1099511627776 : Int) else (base : Int)), .slice none 0 0] 54)) = w4 at *
    generalize (if (1099511627776 : Int) < (base : Int) then (1099511627776 : Int) else (base : Int)) = bi
    obtain ⟨q, hqe⟩ : ∃ q, w3.heap.size = q := ⟨_, rfl⟩
    rw [hqe] at hM hq ⊢
    obtain ⟨x0, x1, xf⟩ := BlkAt.c2 hM.var
    have hsm0 := same20_calls w4 (exP p q none) p b0 0 0 none [] hM.log hM.good hM.ref
    clear hqe
    go_wp2_with fail
    refine hsm0.mono ?_
    rintro e w5 ⟨rfl, f5⟩
    have hM5 := hM.fr0 f5
    clear hsm0 hM f5 x0 x1 xf
    go_wp2_with fail
    go_loopw [33] (fun i wr => ∃ (j b n c : Nat) (A : Option Addr) (es : List EnV), j ≤ m ∧ i = .int .i64 j ∧ MidL w wr p q b n c A es) (fun i _ => m - (intOf i).toNat)
    case atStart => exact ⟨0, _, _, _, _, _, Nat.zero_le _, rfl, hM5⟩
    case round =>
      clear hM5
      obtain ⟨j, b, n, c, A, es, hj, rfl, hM⟩ := hrel
      by_cases hjm : j < m
      · obtain ⟨a, hit⟩ : ∃ a, L[j]? = some a := ⟨_, List.getElem?_eq_getElem (by rw [HN.out]; exact hjm)⟩
        obtain ⟨ad, rfl⟩ := hrow.some_flat (by simp [ActL.C]) hit
        have hmem := List.mem_of_getElem? hit
        obtain ⟨z0, z1, z2, z3, z4, z5, z6, z7, z8, z9, z10⟩ := ((hrow.seg 11 (fun _ => rfl) hit).fr hM.fr id).c11
        have hao := hok a hmem
        obtain ⟨hsa, hsb⟩ := small_sizes (hsm a hmem)
        have hfa : Fr noB wr (wr.alloc (.cells a.C.toArray 57)) := (Fr.refl noB wr).alloc _
        have hba : BlkAt (wr.alloc (.cells a.C.toArray 57)) wr.heap.size 57 a.C.toArray := BlkAt.new _ _ _
        have hMa := hM.fr0 hfa
        have hpl := play_calls (wr.alloc (.cells a.C.toArray 57)) (exP p q A) p b n c A es a (ht.fr0 hMa.fr) hMa.log hMa.good hMa.ref (fun ad e => (hMa.lt ad e).1) (fun ad e h => h.2.2 ad e rfl) hao hsa hsb
        have hGs := hM.good.step hao
        generalize stepL b es a = st at *
        obtain ⟨b', es'⟩ := st
        obtain ⟨ak, ⟨op, view, cl, num, ⟨kk, oa, ob, on, or⟩⟩, an⟩ := a
        unfold ActL.C at hba hMa hpl
        unfold ActL.v at hpl
        simp only [] at *
        clear hit hmem hao hsa hsb hfa hM
        go_upto_region 10 with fail
        generalize hwa : (wr.alloc (.cells #[.int .u8 ak, .int .u64 op, .int .u64 view, .int .u8 cl, .int .u64 num, .int .u8 kk, .string oa, .string ob, .int .u8 on, .int .u8 or, .int .u64 an] 57)) = wa at *
        clear hwa z0 z1 z2 z3 z4 z5 z6 z7 z8 z9 z10
        obtain ⟨z0, z1, z2, z3, z4, z5, z6, z7, z8, z9, z10, zf⟩ := BlkAt.c11 hba
        obtain ⟨x0, x1, xf⟩ := BlkAt.c2 hMa.var
        go_wp2_with fail
        refine hpl.mono ?_
        rintro e w6 ⟨B, n', c', rfl, hR6, hP6, hL6, f6⟩
        simp only [] at hR6 hL6
        have hM7 := hMa.step hq hR6 hP6 hL6 f6 hGs
        obtain ⟨y0, y1, yf⟩ := BlkAt.c2 (hMa.var.fr f6 (fun h1 => h1.2.1 rfl))
        clear hpl hR6 hP6 hL6 f6 hGs hMa z0 z1 z2 z3 z4 z5 z6 z7 z8 z9 z10 zf x0 x1 xf
        go_upto_region 12 with fail
        generalize ((w6.setCell ⟨q, 0, none⟩ (.int .u64 b')).setCell ⟨q, 1, none⟩ (.slice B n' c')) = w7 at *
        clear y0 y1 yf
        obtain ⟨x0, x1, xf⟩ := BlkAt.c2 hM7.var
        have hsm7 := same20_calls w7 (exP p q B) p b' n' c' B es' hM7.log hM7.good hM7.ref
        go_wp2_with fail
        refine hsm7.mono ?_
        rintro e w8 ⟨rfl, f8⟩
        have hM8 := hM7.fr0 f8
        clear hsm7 hM7 f8 x0 x1 xf
        go_wp2_with fail
        go_roundw
        case rel => exact ⟨j + 1, b', n', c', B, es', by omega, by go_num, hM8⟩
        case measure => simp [intOf]; omega
      · have : j = m := by omega
        subst this
        have F := hM.fr
        go_wp2_with fail
        go_ret
        exact BoolPost.mk' rfl F
end Go.Proofs.YtcaihinenfnekaaDoor
