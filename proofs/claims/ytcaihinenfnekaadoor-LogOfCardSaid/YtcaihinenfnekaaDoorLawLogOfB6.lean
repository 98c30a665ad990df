/- What the row leans on, part 6: contracts and plain laws. -/
import Derived.Test.YtcaihinenfnekaaDoorProg
import Derived.WalkKit
import Derived.Maps.AppendAt
import Derived.Lib.AppendStr
import Derived.Laws.AppendOwnNone
import Derived.Deep.Draws
import Derived.WalkSpells
import Derived.Laws.IdiomStrings
import Derived.Lib.ConvBytes
import Derived.Lib.LaidTab
import Derived.LaidSub
import Derived.Deep.QuietTactic
import Derived.BigQuiet
import Derived.Lib.OthersKept
import Derived.Laws.RangeAny
import Derived.LaidEqlPtr
import Derived.Laws.StructEq
import Derived.Deep.Light
import Derived.Laws.Bits64b
import Derived.Laws.ResultCell
import Derived.Deep.RegionHeld3
import Derived.Deep.Cut
import Derived.SliceStrings
import Derived.Deep.Slices
import Derived.ProofKit
import Derived.Test.YtcaihinenfnekaaDoorLawLogOfB5
/- The reference's Append. -/
namespace Go.Proofs.YtcaihinenfnekaaDoor
open Go.RowKit
theorem op_app_any {P : Program} {o : Oper} {a : Act} {w : World} {K : Act → World → Prop} {Q : Exit → Act → World → Prop} {t e : TypeId} {z : Value} {size bytes : Nat} (A : AppTy P t e z size bytes)
    (s x : Operand) (ho : o.op = .call { callee := .builtin .append, args := #[s, x], argTypes := #[t, t] })
    (v : Value) (n : Nat) (xs : List Value) (hs : a.eval s = v) (hown : w.ownsRow 0 e size v n xs)
    (B : Option Addr) (m c : Nat) (news : List Value) (hx : a.eval x = .slice B m c) (hl : news.length = m * size) (hnews : RowAt w B news) (h1 : ∀ u ∈ news, u.oneCell' = true)
    (hB : B = none → m = 0 ∧ c = 0) (hbytes : (n + m) * bytes ≤ 140737488355328) (h63 : n + m ≤ 140737488355328)
    (h : ∀ A' c' w', w'.ownsRow 0 e size (.slice A' (n + m) c') (n + m) (xs ++ news) → w.grownBy w' v.ownBlock → ((Value.slice A' (n + m) c').ownBlock = v.ownBlock ∨ (Value.slice A' (n + m) c').ownBlock = some w.heap.size) → K (a.put o.dst (.slice A' (n + m) c')) w') :
    o.wp P a w K Q := by
  cases B with
  | some ad => exact op_app A s x ho v n xs hs hown (some ad) m c news hx hl hnews h1 (by simp) hbytes h63 h
  | none =>
    obtain ⟨rfl, rfl⟩ := hB rfl
    have hn : news = [] := List.eq_nil_of_length_eq_zero (by simpa using hl)
    subst hn
    obtain ⟨i, hi, _⟩ := info_parts A.info
    obtain ⟨A', c', rfl⟩ := own_slice hown
    have hr := run_append_owned_none (P := P) (w := w) 0 t o.type e i size A.und hi _ n xs hown
    unfold Oper.wp execOp
    simp only [ho, resolve, invoke, builtin, Sem.run_bind, Sem.run_pure, Result.andThen_ok, List.map_toArray, List.map_cons, List.map_nil, hs, hx, hr]
    exact h A' c' w (by simpa using hown) ⟨rfl, rfl, rfl, Nat.le_refl _, fun _ _ _ => rfl⟩ (Or.inl rfl)
/-- A slice value, not nil. -/
def SlS (R : World → World → Prop) : Stb R := ⟨fun v _ => ∃ g n c, v = .slice (some ⟨g, 0, none⟩) n c, fun _ _ _ h _ => h⟩
theorem sl_undef {g n c : Nat} {v : Value} {p : Prop} (h : v = undef ∨ p) (hv : v = .slice (some ⟨g, 0, none⟩) n c) : p := by
  rcases h with h | h
  · rw [hv] at h; exact absurd h (by simp [undef])
  · exact h
section steps
variable {n0 pl pe b n c : Nat} {A : Option Addr} {xs E : List Value} {v25 v28 v30 v31 : Value} {W : World}
theorem AppRC.s01 (h : AppRC n0 pl pe b n c A xs E 0 v25 v28 v30 v31 W) : AppRC n0 pl pe b n c A xs E 1 v25 v28 v30 v31 W :=
  ⟨h.ent, fun _ => h.old (by omega), fun _ => h.log (by omega), fun k => by omega, fun _ => h.e25 (by omega), fun k => by omega, fun k => by omega, fun _ => h.e30 (by omega)⟩
theorem own_lt' {w : World} {base n : Nat} {e : TypeId} {size : Nat} {v : Value} {xs : List Value} (h : w.ownsRow base e size v n xs) : v.ownBlock ≠ some w.heap.size := fun e => by
  have := (h.lt _ e).2; omega
theorem AppRC.cur_ne {q : Nat} (h : AppRC n0 pl pe b n c A xs E q v25 v28 v30 v31 W) (hq : q ≤ 2) : (curV q v25 v28).ownBlock ≠ some W.heap.size := by
  unfold curV
  split
  · rename_i h1
    rcases h.e25 h1 with h2 | ⟨g, h2, h3⟩
    · rw [h2]; simp [Value.ownBlock, undef]
    · exact own_lt' h3
  · obtain ⟨B, d, h2, h3⟩ := h.e28 (by omega)
    exact own_lt' h3
theorem AppRC.p25 {q : Nat} (h : AppRC n0 pl pe b n c A xs E q v25 v28 v30 v31 W) (h0 : n0 ≤ W.heap.size) : AppRC n0 pl pe b n c A xs E q (.slice (some ⟨W.heap.size, 0, none⟩) 0 0) v28 v30 v31 (W.alloc (.cells #[] 90)) := by
  have k := h.fr0 ((Fr.refl noB W).alloc (.cells #[] 90))
  refine ⟨k.ent, k.old, k.log, k.done, fun hq => Or.inr ⟨W.heap.size, rfl, World.ownsRow_made W #[] 0 h0 (by unfold maxLen; omega) rfl⟩, k.e28, k.e31, fun hq => ?_⟩
  rcases h.e30 hq with h1 | ⟨g, h1, h2, h3, h4, h5⟩
  · exact Or.inl h1
  · refine Or.inr ⟨g, h1, h2.fr0 ((Fr.refl noB W).alloc _), h3, by rw [al_size]; omega, ?_⟩
    unfold curV at *
    split
    · simp [Value.ownBlock]; omega
    · rename_i h6; rw [if_neg h6] at h5; exact h5
theorem AppRC.p30 {q : Nat} (h : AppRC n0 pl pe b n c A xs E q v25 v28 v30 v31 W) (h0 : n0 ≤ W.heap.size) : AppRC n0 pl pe b n c A xs E q v25 v28 (.slice (some ⟨W.heap.size, 0, none⟩) 1 1) v31 (W.alloc (.cells E.toArray 90)) := by
  have k := h.fr0 ((Fr.refl noB W).alloc (.cells E.toArray 90))
  exact ⟨k.ent, k.old, k.log, k.done, k.e25, k.e28, k.e31, fun hq => Or.inr ⟨W.heap.size, rfl, by have := new_row W E.toArray 90; simpa using this, h0, by rw [al_size]; omega, h.cur_ne hq⟩⟩
theorem AppRC.s12 {W' : World} {A' : Option Addr} {c' : Nat} (h : AppRC n0 pl pe b n c A xs E 1 v25 v28 v30 v31 W) (h0 : n0 ≤ W.heap.size) (hp : pl < n0) (he : pe < n0) (hb : ∀ g, v25.ownBlock = some g → n0 ≤ g)
    (hO : W'.ownsRow 0 90 9 (.slice A' n c') n xs) (hg : W.grownBy W' v25.ownBlock) (hat : (Value.slice A' n c').ownBlock = v25.ownBlock ∨ (Value.slice A' n c').ownBlock = some W.heap.size) :
    AppRC n0 pl pe b n c A xs E 2 v25 (.slice A' n c') v30 v31 W' := by
  have f : Fr (fun k => v25.ownBlock = some k) W W' := (Fr.refl _ W).grown hg (fun k hk => Or.inl hk)
  refine ⟨h.ent.fr f (fun e => by have := hb _ e; omega), fun k => by omega, fun _ => (h.log (by omega)).fr f (fun e => by have := hb _ e; omega), fun k => by omega, fun k => by omega, fun _ => ⟨A', c', rfl, own_mono hO (fun g e => ?_)⟩, fun k => by omega, fun _ => ?_⟩
  · rcases hat with h1 | h1
    · exact hb g (h1 ▸ e)
    · rw [e] at h1; cases h1; exact h0
  · rcases h.e30 (by omega) with h1 | ⟨g, h1, h2, h3, h4, h5⟩
    · exact Or.inl h1
    · refine Or.inr ⟨g, h1, h2.fr f (fun ad e _ _ => by cases e; exact h5), h3, Nat.lt_of_lt_of_le h4 f.size, ?_⟩
      show (Value.slice A' n c').ownBlock ≠ some g
      rcases hat with h6 | h6
      · rw [h6]; exact h5
      · rw [h6]; intro e; cases e; omega
theorem AppRC.s23 {W' : World} {A' : Option Addr} {c' : Nat} (h : AppRC n0 pl pe b n c A xs E 2 v25 v28 v30 v31 W) (h0 : n0 ≤ W.heap.size) (hp : pl < n0) (he : pe < n0) (hb : ∀ g, v28.ownBlock = some g → n0 ≤ g)
    (hO : W'.ownsRow 0 90 9 (.slice A' (n + 1) c') (n + 1) (xs ++ E)) (hg : W.grownBy W' v28.ownBlock) (hat : (Value.slice A' (n + 1) c').ownBlock = v28.ownBlock ∨ (Value.slice A' (n + 1) c').ownBlock = some W.heap.size) :
    AppRC n0 pl pe b n c A xs E 3 v25 v28 v30 (.slice A' (n + 1) c') W' := by
  have f : Fr (fun k => v28.ownBlock = some k) W W' := (Fr.refl _ W).grown hg (fun k hk => Or.inl hk)
  refine ⟨h.ent.fr f (fun e => by have := hb _ e; omega), fun k => by omega, fun _ => (h.log (by omega)).fr f (fun e => by have := hb _ e; omega), fun k => by omega, fun k => by omega, fun k => by omega, fun _ => ⟨A', c', rfl, own_mono hO (fun g e => ?_)⟩, fun k => by omega⟩
  rcases hat with h1 | h1
  · exact hb g (h1 ▸ e)
  · rw [e] at h1; cases h1; exact h0
theorem AppRC.s34 {A' : Option Addr} {c' : Nat} (h : AppRC n0 pl pe b n c A xs E 3 v25 v28 v30 v31 W) (hv : v31 = .slice A' (n + 1) c') (hp : pl < n0) (he : pe ≠ pl) :
    AppRC n0 pl pe b n c A xs E 4 v25 v28 v30 v31 (W.setCell ⟨pl, 1, none⟩ (.slice A' (n + 1) c')) := by
  have fs := fr_set1 W pl 1 (.slice A' (n + 1) c')
  have hset := (h.log (by omega)).set 1 (.slice A' (n + 1) c')
  obtain ⟨B, d, h1, h2⟩ := h.e31 rfl
  rw [hv] at h1
  cases h1
  rw [hv] at h2
  exact ⟨h.ent.fr fs (by unfold eqB; omega), fun k => by omega, fun k => by omega, fun _ => ⟨A', c', hset, own_fr h2 fs (fun g hg e => by have := (h2.lt g hg).1; unfold eqB at e; omega)⟩, fun k => by omega, fun k => by omega, fun k => by omega, fun k => by omega⟩
end steps

set_option maxRecDepth 100000 in
set_option maxHeartbeats 1600000 in
theorem appR_calls (w : World) (b n c : Nat) (A : Option Addr) (es : List EnV) (e : EnV) (h : RefA w A n c es) (hG : GoodL b es) (hw : e.wf) (ha : e.o.a.size ≤ 1000000000000) (hb : e.o.b.size ≤ 1000000000000) :
    Calls Tryd.prog 74 #[.agg #[.int .u64 b, .slice A n c], e.v] w (fun ed w' => ∃ B m d, ed = .returned (.tuple #[.agg #[.int .u64 b, .slice B m d], .int .i64 ((appL b es e).2 : Nat)]) ∧ RefA w' B m d (appL b es e).1 ∧ Placed w w' A B ∧ Fr noB w w') := by
  have HV : Hid (appL b es e = if checkE e ≠ 0 then (es, checkE e) else if e.op ≠ lastL b es + 1 then (es, 12) else if 16 ≤ es.length then (es, 7) else (es ++ [e], 0)) := rfl
  have hck := fun W => checkEr_calls W e hw ha hb
  have hll := hG.last
  have hbb := hG.base
  have hw16 := hG.few
  have HN := h.len
  have HLA : Hid (lastL b es = b + n) := by unfold Hid lastL; rw [HN.out]
  have hla := fun W => lastR_calls W b n c A (by have := HLA.out; omega)
  rw [HLA.out, HN.out] at HV
  rw [HN.out] at hw16
  have hop := hw.op
  have hone : ∀ u ∈ e.C, u.oneCell' = true := by have := flatE_one [e]; simpa using this
  have hfl1 : Hid ((es ++ [e]).flatMap EnV.C = es.flatMap EnV.C ++ e.C) := by unfold Hid; simp
  have hone' := flatE_one es
  have hlenx : (es.flatMap EnV.C).length = n * 9 := by rw [flatE_length, HN.out]
  have hsn : Hid ((es ++ [e]).length = n + 1) := by unfold Hid; rw [List.length_append, HN.out]; rfl
  have f0 : Fr noB w (((w.alloc (.cells #[.int .u64 b, .slice A n c] 54)).alloc (.cells e.C.toArray 90)).alloc (.cells #[.int .u64 0, .slice none 0 0] 54)) := (((Fr.refl noB w).alloc _).alloc _).alloc _
  have hb0 : BlkAt (((w.alloc (.cells #[.int .u64 b, .slice A n c] 54)).alloc (.cells e.C.toArray 90)).alloc (.cells #[.int .u64 0, .slice none 0 0] 54)) w.heap.size 54 #[.int .u64 b, .slice A n c] := ((BlkAt.new _ _ _).al _).al _
  have hb1 : BlkAt (((w.alloc (.cells #[.int .u64 b, .slice A n c] 54)).alloc (.cells e.C.toArray 90)).alloc (.cells #[.int .u64 0, .slice none 0 0] 54)) (w.heap.size + 1) 90 e.C.toArray := by
    have := (BlkAt.new (w.alloc (.cells #[.int .u64 b, .slice A n c] 54)) e.C.toArray 90).al (.cells #[.int .u64 0, .slice none 0 0] 54)
    rwa [al_size] at this
  have hb2 : BlkAt (((w.alloc (.cells #[.int .u64 b, .slice A n c] 54)).alloc (.cells e.C.toArray 90)).alloc (.cells #[.int .u64 0, .slice none 0 0] 54)) (w.heap.size + 2) 54 #[.int .u64 0, .slice none 0 0] := by
    have := BlkAt.new ((w.alloc (.cells #[.int .u64 b, .slice A n c] 54)).alloc (.cells e.C.toArray 90)) #[.int .u64 0, .slice none 0 0] 54
    rwa [al_size, al_size] at this
  have hr : Hid (Tryd.f74.results = #[.cell 4 54, .tmp 5]) := by unfold Hid; kernel_rfl
  have hnil := h.nil
  clear HLA hw ha hb hG
  obtain ⟨op, view, cl, num, ⟨k, oa, ob, on, or⟩⟩ := e
  unfold EnV.v at *
  unfold EnV.C at f0 hb0 hb1 hb2 hone
  simp only [] at *
  generalize es ++ [(⟨op, view, cl, num, ⟨k, oa, ob, on, or⟩⟩ : EnV)] = es1 at *
  generalize checkE ⟨op, view, cl, num, ⟨k, oa, ob, on, or⟩⟩ = cv at *
  generalize appL b es ⟨op, view, cl, num, ⟨k, oa, ob, on, or⟩⟩ = res at *
  have hcl : ((b + n : Nat) : Int) = (b : Int) + n := by omega
  have hw2 : IntKind.u64.wrap ((b : Int) + n + 1) = b + n + 1 := by rw [IntKind.wrap_u64]; omega
  obtain ⟨c2, hc2⟩ : ∃ c, ((op : Int) != (b : Int) + n + 1) = c := ⟨_, rfl⟩
  have hd2 : Hid (c2 = true ↔ op ≠ b + n + 1) := by rw [← hc2]; unfold Hid; rw [bne_iff_ne]; omega
  have hfs := fun (W : World) (u0 u1 : Value) => ((fr_set1 W (w.heap.size + 2) 0 u0).then' (fr_set1 _ (w.heap.size + 2) 1 u1))
  go_enter Tryd.func74, Tryd.ntmps74
  go_upto_region 1 with fail
  generalize (((w.alloc (.cells #[.int .u64 b, .slice A n c] 54)).alloc (.cells #[.int .u64 op, .int .u64 view, .int .u8 cl, .int .u64 num, .int .u8 k, .string oa, .string ob, .int .u8 on, .int .u8 or] 90)).alloc (.cells #[.int .u64 0, .slice none 0 0] 54)) = wa at *
  obtain ⟨x0, x1, x2, x3, x4, x5, x6, x7, x8, xf⟩ := BlkAt.c9 hb1
  go_wp2_with fail
  refine (hck wa).mono ?_
  rintro ed w1 ⟨rfl, f1⟩
  have F1 := f0.then' f1
  replace hb0 := hb0.fr f1 id
  replace hb1 := hb1.fr f1 id
  replace hb2 := hb2.fr f1 id
  clear x0 x1 x2 x3 x4 x5 x6 x7 x8 xf hck f1 f0
  by_cases hcv : cv = 0
  · rw [if_neg (by omega)] at HV
    subst hcv
    go_wp2_with fail
    apply wp_region_calm (R := Fr noB) (C := fun _ w' => Fr noB w1 w') [false, false, false, false, false, false]
      [eqv _, eqv _, eqv _, eqv _, eqv _, eqv _]
      (by kernel_rfl) (by kernel_rfl) (fun _ _ _ h1 h2 => h1.then' h2) ((Fr.refl _ _).drew) ((Fr.refl _ _).drew) (by kernel_rfl)
    · refine ⟨?_, ?_, ?_, ?_, ?_, ?_, trivial⟩
      · rw [if_neg (by decide)]; intro kq
        intro a W K hC hd hK
        have d3 : a.tmps[3]?.getD undef = .pointer (some ⟨w.heap.size + 1, 0, none⟩) := hd 3 (by decide)
        refine wpOp_plain rfl rfl ?_
        obtain ⟨x0, x1, x2, x3, x4, x5, x6, x7, x8, xf⟩ := BlkAt.c9 (hb1.fr hC id)
        obtain ⟨y0, y1, yf⟩ := BlkAt.c2 (hb0.fr hC id)
        go_wp2_with fail
        exact hK _ _ (Fr.refl _ _) hC rfl
      · rw [if_neg (by decide)]; intro kq
        intro a W K hC hd hK
        have d13 : _ = _ := hd 13 (by decide)
        refine wpOp_plain rfl rfl ?_
        obtain ⟨x0, x1, x2, x3, x4, x5, x6, x7, x8, xf⟩ := BlkAt.c9 (hb1.fr hC id)
        obtain ⟨y0, y1, yf⟩ := BlkAt.c2 (hb0.fr hC id)
        go_wp2_with fail
        exact hK _ _ (Fr.refl _ _) hC rfl
      · rw [if_neg (by decide)]; intro kq
        intro a W K hC hd hK
        have d2 : a.tmps[2]?.getD undef = .pointer (some ⟨w.heap.size, 0, none⟩) := hd 2 (by decide)
        refine wpOp_plain rfl rfl ?_
        obtain ⟨x0, x1, x2, x3, x4, x5, x6, x7, x8, xf⟩ := BlkAt.c9 (hb1.fr hC id)
        obtain ⟨y0, y1, yf⟩ := BlkAt.c2 (hb0.fr hC id)
        go_wp2_with fail
        exact hK _ _ (Fr.refl _ _) hC rfl
      · rw [if_neg (by decide)]; intro kq
        intro a W K hC hd hK
        have d15 : _ = _ := hd 15 (by decide)
        refine wpOp_plain rfl rfl ?_
        obtain ⟨x0, x1, x2, x3, x4, x5, x6, x7, x8, xf⟩ := BlkAt.c9 (hb1.fr hC id)
        obtain ⟨y0, y1, yf⟩ := BlkAt.c2 (hb0.fr hC id)
        go_wp2_with fail
        refine (hla W).mono ?_
        rintro e9 w9 ⟨rfl, f9⟩
        rw [hcl]
        exact hK _ _ f9 (hC.then' f9) rfl
      · rw [if_neg (by decide)]; intro kq
        intro a W K hC hd hK
        have d16 : _ = _ := hd 16 (by decide)
        refine wpOp_plain rfl rfl ?_
        go_wp2_with fail
        exact hK _ _ (Fr.refl _ _) hC rfl
      · rw [if_neg (by decide)]; intro kq
        intro a W K hC hd hK
        have d14 : _ = _ := hd 14 (by decide)
        have d17 : _ = _ := hd 17 (by decide)
        refine wpOp_plain rfl rfl ?_
        go_wp2_with fail
        exact hK _ _ (Fr.refl _ _) hC rfl
    · intro vs w2 fw2 cw2 hV
      have v13 : vs 0 = _ := hV 0 _ _ rfl rfl (by decide)
      have v14 : vs 1 = _ := hV 1 _ _ rfl rfl (by decide)
      have v15 : vs 2 = _ := hV 2 _ _ rfl rfl (by decide)
      have v16 : vs 3 = _ := hV 3 _ _ rfl rfl (by decide)
      have v17 : vs 4 = _ := hV 4 _ _ rfl rfl (by decide)
      have v18 : vs 5 = _ := hV 5 _ _ rfl rfl (by decide)
      clear hV
      simp only [putL, Act.put, Nat.reduceAdd, List.setIfInBounds_toArray, List.set_cons_zero, List.set_cons_succ, v13, v14, v15, v16, v17, v18]
      have F2 := F1.then' fw2
      replace hb0 := hb0.fr fw2 id
      replace hb1 := hb1.fr fw2 id
      replace hb2 := hb2.fr fw2 id
      clear F1 fw2 cw2 hla
      obtain ⟨x0, x1, xf⟩ := BlkAt.c2 hb0
      obtain ⟨y0, y1, yf⟩ := BlkAt.c2 hb2
      cases c2 with
      | true =>
        rw [if_pos (hd2.out.1 rfl)] at HV
        go_wp2_with fail
        have hr := hr.out
        have FF := F2.trans (hfs w2 (.int .u64 b) (.slice A n c)) (fun i hi h => by unfold eqB at h; omega)
        exact bodyPost_ret (v := .tuple #[.agg #[.int .u64 b, .slice A n c], .int .i64 12]) (by simp [results, hr, go_sem, y0, y1]) rfl (by rw [HV.out]; exact ⟨A, n, c, rfl, h.fr0 FF, Or.inl rfl, FF⟩)
      | false =>
        rw [if_neg (fun h => by have := hd2.out.2 h; cases this)] at HV
        by_cases h16 : 16 ≤ n
        · rw [if_pos h16] at HV
          have d16 : decide ((16 : Int) ≤ n) = true := decide_eq_true (by omega)
          clear h16
          go_wp2_with fail
          have hr := hr.out
          have FF := F2.trans (hfs w2 (.int .u64 b) (.slice A n c)) (fun i hi h => by unfold eqB at h; omega)
          exact bodyPost_ret (v := .tuple #[.agg #[.int .u64 b, .slice A n c], .int .i64 7]) (by simp [results, hr, go_sem, y0, y1]) rfl (by rw [HV.out]; exact ⟨A, n, c, rfl, h.fr0 FF, Or.inl rfl, FF⟩)
        · rw [if_neg h16] at HV
          have d16 : decide ((16 : Int) ≤ n) = false := decide_eq_false (by omega)
          have hs2 := F2.size
          have hx2 := h.row.fr0 F2
          have hlt0 := hb0.lt
          have hlt1 := hb1.lt
          have hlt2 := hb2.lt
          generalize es.flatMap EnV.C = xs at *
          go_wp2_with fail
          clear x0 x1 xf y0 y1 yf
          apply H.wp_region_calmL (R := Fr (orB (upB w2.heap.size) w.heap.size)) (C := fun q ν W => Fr (orB (upB w2.heap.size) w.heap.size) w2 W ∧ AppRC w2.heap.size w.heap.size (w.heap.size + 1) b n c A xs [.int .u64 op, .int .u64 view, .int .u8 cl, .int .u64 num, .int .u8 k, .string oa, .string ob, .int .u8 on, .int .u8 or] q (ν 25) (ν 28) (ν 30) (ν 31) W) [false, false, true, true, false, false, true, false, true] [0, 0, 0, 1, 0, 0, 2, 3, 3]
            [SlS _, eqv _, eqv (.slice A n c), anyv, eqv _, SlS _, anyv, eqv _, anyv]
            (by kernel_rfl) (by kernel_rfl) (fun _ _ _ h1 h2 => h1.then' h2) ((Fr.refl _ _).drew) ⟨(Fr.refl _ _).drew, hb1, fun _ => hx2, fun _ => hb0, fun k => by omega, fun _ => Or.inl rfl, fun k => by omega, fun k => by omega, fun _ => Or.inl rfl⟩ (by kernel_rfl)
          · refine ⟨?_, ?_, ?_, ?_, ?_, ?_, ?_, ?_, ?_, trivial⟩
            · rw [if_neg (by decide)]; intro kq
              intro a W K hC hd hK
              refine wpOp_plain rfl rfl ?_
              go_wp2_with fail
              have fn := (Fr.refl (orB (upB w2.heap.size) w.heap.size) W).alloc (.cells #[] 90)
              exact hK _ _ fn ⟨hC.1.then' fn, hC.2.p25 hC.1.size⟩ ⟨_, _, _, rfl⟩
            · rw [if_neg (by decide)]; intro kq
              intro a W K hC hd hK
              have d2 : a.tmps[2]?.getD undef = .pointer (some ⟨w.heap.size, 0, none⟩) := hd 2 (by decide)
              refine wpOp_plain rfl rfl ?_
              obtain ⟨y0, y1, y2, y3, y4, y5, y6, y7, y8, yf⟩ := BlkAt.c9 hC.2.ent
              go_wp2_with fail
              exact hK _ _ (Fr.refl _ _) hC rfl
            · rw [if_pos (by decide)]
              intro a W K hC hd hK
              replace hC : (fun q ν W => Fr (orB (upB w2.heap.size) w.heap.size) w2 W ∧ AppRC w2.heap.size w.heap.size (w.heap.size + 1) b n c A xs [.int .u64 op, .int .u64 view, .int .u8 cl, .int .u64 num, .int .u8 k, .string oa, .string ob, .int .u8 on, .int .u8 or] q (ν 25) (ν 28) (ν 30) (ν 31) W) 0 (fun t => a.eval (.tmp t)) W := hC
              have d26 : _ = _ := hd 26 (by decide)
              refine wpOp_plain rfl rfl ?_
              obtain ⟨y0, y1, y2, y3, y4, y5, y6, y7, y8, yf⟩ := BlkAt.c9 hC.2.ent
              obtain ⟨x0, x1, xf⟩ := BlkAt.c2 (hC.2.log (by omega))
              go_wp2_with fail
              exact hK _ _ (Fr.refl _ _) ⟨hC.1, hC.2.s01⟩ rfl
            · rw [if_pos (by decide)]
              intro a W K hC hd hK
              replace hC : (fun q ν W => Fr (orB (upB w2.heap.size) w.heap.size) w2 W ∧ AppRC w2.heap.size w.heap.size (w.heap.size + 1) b n c A xs [.int .u64 op, .int .u64 view, .int .u8 cl, .int .u64 num, .int .u8 k, .string oa, .string ob, .int .u8 on, .int .u8 or] q (ν 25) (ν 28) (ν 30) (ν 31) W) 1 (fun t => a.eval (.tmp t)) W := hC
              have d25 : (SlS _).V (a.tmps[25]?.getD undef) W := hd 25 (by decide)
              have d27 : a.tmps[27]?.getD undef = .slice A n c := hd 27 (by decide)
              refine wpOp_plain rfl rfl ?_
              obtain ⟨y0, y1, y2, y3, y4, y5, y6, y7, y8, yf⟩ := BlkAt.c9 hC.2.ent
              obtain ⟨g9, n9, c9, d25⟩ := d25
              have hev : a.eval (.tmp 25) = .slice (some ⟨g9, 0, none⟩) n9 c9 := by rw [eval_get]; exact d25
              obtain ⟨g8, e8, o8⟩ := sl_undef (hC.2.e25 (by omega)) hev
              have hb8 : ∀ g, (a.eval (.tmp 25)).ownBlock = some g → w2.heap.size ≤ g := fun g hg => (o8.lt g hg).1
              refine op_app_any Tryd.appER (.tmp 25) (.tmp 27) rfl _ 0 [] rfl (own_mono o8 (fun _ _ => Nat.zero_le _)) A n c xs (by rw [eval_get]; exact d27) hlenx (hC.2.old (by omega)) hone' hnil (by omega) (by omega) ?_
              intro A9 c8 w9 ho9 hg9 hat9
              rw [Nat.zero_add] at ho9 hat9
              rw [List.nil_append] at ho9
              have fg : Fr (orB (upB w2.heap.size) w.heap.size) W w9 := (Fr.refl _ W).grown hg9 (fun k hk => Or.inl (Or.inl (hb8 k hk)))
              have hq := hC.2.s12 hC.1.size (by omega) (by omega) hb8 ho9 hg9 hat9
              simp only [Nat.zero_add]
              exact hK _ _ fg ⟨hC.1.then' fg, hq⟩ trivial
            · rw [if_neg (by decide)]; intro kq
              intro a W K hC hd hK
              have d3 : a.tmps[3]?.getD undef = .pointer (some ⟨w.heap.size + 1, 0, none⟩) := hd 3 (by decide)
              refine wpOp_plain rfl rfl ?_
              obtain ⟨y0, y1, y2, y3, y4, y5, y6, y7, y8, yf⟩ := BlkAt.c9 hC.2.ent
              go_wp2_with fail
              exact hK _ _ (Fr.refl _ _) hC rfl
            · rw [if_neg (by decide)]; intro kq
              intro a W K hC hd hK
              have d29 : _ = _ := hd 29 (by decide)
              refine wpOp_plain rfl rfl ?_
              go_wp2_with fail
              have fn := (Fr.refl (orB (upB w2.heap.size) w.heap.size) W).alloc (.cells #[.int .u64 op, .int .u64 view, .int .u8 cl, .int .u64 num, .int .u8 k, .string oa, .string ob, .int .u8 on, .int .u8 or] 90)
              exact hK _ _ fn ⟨hC.1.then' fn, hC.2.p30 hC.1.size⟩ ⟨_, _, _, rfl⟩
            · rw [if_pos (by decide)]
              intro a W K hC hd hK
              replace hC : (fun q ν W => Fr (orB (upB w2.heap.size) w.heap.size) w2 W ∧ AppRC w2.heap.size w.heap.size (w.heap.size + 1) b n c A xs [.int .u64 op, .int .u64 view, .int .u8 cl, .int .u64 num, .int .u8 k, .string oa, .string ob, .int .u8 on, .int .u8 or] q (ν 25) (ν 28) (ν 30) (ν 31) W) 2 (fun t => a.eval (.tmp t)) W := hC
              have d28 : (anyv).V (a.tmps[28]?.getD undef) W := hd 28 (by decide)
              have d30 : (SlS _).V (a.tmps[30]?.getD undef) W := hd 30 (by decide)
              refine wpOp_plain rfl rfl ?_
              obtain ⟨y0, y1, y2, y3, y4, y5, y6, y7, y8, yf⟩ := BlkAt.c9 hC.2.ent
              obtain ⟨g9, n9, c9, d30⟩ := d30
              have hev : a.eval (.tmp 30) = .slice (some ⟨g9, 0, none⟩) n9 c9 := by rw [eval_get]; exact d30
              obtain ⟨g8, e8, r8, _, _, _⟩ := sl_undef (hC.2.e30 (by omega)) hev
              obtain ⟨B7, d7, e7, o7⟩ := hC.2.e28 rfl
              have hb8 : ∀ g, (a.eval (.tmp 28)).ownBlock = some g → w2.heap.size ≤ g := fun g hg => (o7.lt g hg).1
              refine op_app_any Tryd.appER (.tmp 28) (.tmp 30) rfl _ n xs rfl (own_mono o7 (fun _ _ => Nat.zero_le _)) (some ⟨g8, 0, none⟩) 1 1 [.int .u64 op, .int .u64 view, .int .u8 cl, .int .u64 num, .int .u8 k, .string oa, .string ob, .int .u8 on, .int .u8 or] e8 rfl r8 hone (by simp) (by omega) (by omega) ?_
              intro A9 c8 w9 ho9 hg9 hat9
              have fg : Fr (orB (upB w2.heap.size) w.heap.size) W w9 := (Fr.refl _ W).grown hg9 (fun k hk => Or.inl (Or.inl (hb8 k hk)))
              have hq := hC.2.s23 hC.1.size (by omega) (by omega) hb8 ho9 hg9 hat9
              exact hK _ _ fg ⟨hC.1.then' fg, hq⟩ trivial
            · rw [if_neg (by decide)]; intro kq
              intro a W K hC hd hK
              have d2 : a.tmps[2]?.getD undef = .pointer (some ⟨w.heap.size, 0, none⟩) := hd 2 (by decide)
              refine wpOp_plain rfl rfl ?_
              obtain ⟨y0, y1, y2, y3, y4, y5, y6, y7, y8, yf⟩ := BlkAt.c9 hC.2.ent
              go_wp2_with fail
              exact hK _ _ (Fr.refl _ _) hC rfl
            · rw [if_pos (by decide)]
              intro a W K hC hd hK
              replace hC : (fun q ν W => Fr (orB (upB w2.heap.size) w.heap.size) w2 W ∧ AppRC w2.heap.size w.heap.size (w.heap.size + 1) b n c A xs [.int .u64 op, .int .u64 view, .int .u8 cl, .int .u64 num, .int .u8 k, .string oa, .string ob, .int .u8 on, .int .u8 or] q (ν 25) (ν 28) (ν 30) (ν 31) W) 3 (fun t => a.eval (.tmp t)) W := hC
              have d32 : _ = _ := hd 32 (by decide)
              have d31 : (anyv).V (a.tmps[31]?.getD undef) W := hd 31 (by decide)
              refine wpOp_plain rfl rfl ?_
              obtain ⟨y0, y1, y2, y3, y4, y5, y6, y7, y8, yf⟩ := BlkAt.c9 hC.2.ent
              obtain ⟨B7, d7, e7, o7⟩ := hC.2.e31 rfl
              have d31' : a.tmps[31]?.getD undef = .slice B7 (n + 1) d7 := by rw [← eval_get]; exact e7
              obtain ⟨x0, x1, xf⟩ := BlkAt.c2 (hC.2.log (by omega))
              have fs := (fr_set1 W w.heap.size 1 (.slice B7 (n + 1) d7)).mono (T := orB (upB w2.heap.size) w.heap.size) (fun _ _ h => Or.inr h)
              have hq := hC.2.s34 e7 (by omega) (by omega)
              go_wp2_with fail
              exact hK undef _ fs ⟨hC.1.then' fs, hq⟩ trivial
          · intro vs w8 fw8 cw8 hV
            have v25 : (SlS _).V (vs 0) w8 := hV 0 _ _ rfl rfl (by decide)
            have v26 : vs 1 = _ := hV 1 _ _ rfl rfl (by decide)
            have v27 : vs 2 = .slice A n c := hV 2 _ _ rfl rfl (by decide)
            have v28 : (anyv).V (vs 3) w8 := hV 3 _ _ rfl rfl (by decide)
            have v29 : vs 4 = _ := hV 4 _ _ rfl rfl (by decide)
            have v30 : (SlS _).V (vs 5) w8 := hV 5 _ _ rfl rfl (by decide)
            have v31 : (anyv).V (vs 6) w8 := hV 6 _ _ rfl rfl (by decide)
            have v32 : vs 7 = _ := hV 7 _ _ rfl rfl (by decide)
            clear hV
            simp only [putL, Act.put, Nat.reduceAdd, List.setIfInBounds_toArray, List.set_cons_zero, List.set_cons_succ, v26, v27, v29, v32]
            obtain ⟨B9, d9, hb9, ho9⟩ := cw8.2.done (by decide)
            have hb28 := hb2.fr fw8 (fun h => by rcases h with h | h; unfold upB at h; omega; omega)
            have F8 := F2.trans fw8 (fun i hi h => by rcases h with h | h; unfold upB at h; omega; omega)
            clear cw8
            obtain ⟨x0, x1, xf⟩ := BlkAt.c2 hb9
            obtain ⟨y0, y1, yf⟩ := BlkAt.c2 hb28
            go_wp2_with fail
            have hr := hr.out
            have FF := F8.trans (hfs w8 (.int .u64 b) (.slice B9 (n + 1) d9)) (fun i hi h => by unfold eqB at h; omega)
            have hO := own_fr ho9 (hfs w8 (.int .u64 b) (.slice B9 (n + 1) d9)) (fun g hg h => by have := (ho9.lt g hg).1; unfold eqB at h; omega)
            have e9 : xs ++ [.int .u64 op, .int .u64 view, .int .u8 cl, .int .u64 num, .int .u8 k, .string oa, .string ob, .int .u8 on, .int .u8 or] = List.flatMap EnV.C es1 := hfl1.out.symm
            rw [e9] at hO
            exact bodyPost_ret (v := .tuple #[.agg #[.int .u64 b, .slice B9 (n + 1) d9], .int .i64 0]) (by simp [results, hr, go_sem, y0, y1]) rfl (by rw [HV.out]; exact ⟨B9, n + 1, d9, rfl, RefA.of_own hsn hO, Placed.of_own (w := w2) hO F2.size, FF⟩)
  · rw [if_pos hcv] at HV
    have t1 : ((cv : Int) != 0) = true := by rw [bne_iff_ne]; omega
    obtain ⟨x0, x1, xf⟩ := BlkAt.c2 hb0
    obtain ⟨y0, y1, yf⟩ := BlkAt.c2 hb2
    clear hcv
    go_wp2_with fail
    have hr := hr.out
    have FF := F1.trans (hfs w1 (.int .u64 b) (.slice A n c)) (fun i hi h => by unfold eqB at h; omega)
    exact bodyPost_ret (v := .tuple #[.agg #[.int .u64 b, .slice A n c], .int .i64 cv]) (by simp [results, hr, go_sem, y0, y1]) rfl (by rw [HV.out]; exact ⟨A, n, c, rfl, h.fr0 FF, Or.inl rfl, FF⟩)
end Go.Proofs.YtcaihinenfnekaaDoor
/- interrexlaw20.Same; log.Copy. -/
namespace Go.Proofs.YtcaihinenfnekaaDoor
open Go.RowKit

set_option maxRecDepth 100000 in
set_option maxHeartbeats 3200000 in
theorem same20_calls (w : World) (U : Nat → Prop) (p b n c : Nat) (A : Option Addr) (es : List EnV) (h : LogA w U p b es) (hG : GoodL b es) (hR : RefA w A n c es) :
    Calls Tryd.prog 32 #[.pointer (some ⟨p, 0, none⟩), .agg #[.int .u64 b, .slice A n c]] w (BoolPost w true) := by
  have HN := hR.len
  have hll := hG.last
  have hbb := hG.base
  have hw16 := hG.few
  have HLA : Hid (lastL b es = b + n) := by unfold Hid lastL; rw [HN.out]
  have hba := fun W h => baseL_calls W U p b es h
  have hla := fun W h => lastL_calls W U p b es h (by omega)
  have hlr := fun W => lastR_calls W b n c A (by have := HLA.out; omega)
  have hle := fun W h => lenL_calls W U p b es h
  have hfu := fun W h => fullL_calls W U p b es h
  have hfr := fun W h => fromL_calls W U p b 0 es h hG (by decide)
  rw [fromL_zero] at hfr
  rw [HLA.out] at hla
  rw [HN.out] at hle hfu hw16
  have hsm := fun W A1 n1 c1 (h1 : RefA W A1 n1 c1 es) (h2 : RefA W A n c es) => same19_calls W A1 A n1 c1 n c es es h1 h2 (by rw [← h1.len.out, HN.out]; omega) (by omega) rfl
  obtain ⟨v, hv⟩ : ∃ v, decide (16 ≤ n) = v := ⟨_, rfl⟩
  have hv2 : ((n : Int) == 16) = v := by
    rw [← hv]
    by_cases h : n = 16
    · subst h; rfl
    · rw [beq_eq_false_iff_ne.2 (by omega), decide_eq_false (by omega)]
  rw [hv] at hfu
  have hcl : ((b + n : Nat) : Int) = (b : Int) + n := by omega
  rw [hcl] at hla hlr
  have hb0 : BlkAt (w.alloc (.cells #[.int .u64 b, .slice A n c] 54)) w.heap.size 54 #[.int .u64 b, .slice A n c] := BlkAt.new _ _ _
  have f0 : Fr noB w (w.alloc (.cells #[.int .u64 b, .slice A n c] 54)) := (Fr.refl noB w).alloc _
  clear hG HLA hv
  go_enter Tryd.func32, Tryd.ntmps32
  go_upto_region 1 with fail
  generalize (w.alloc (.cells #[.int .u64 b, .slice A n c] 54)) = wa at *
  apply wp_region_calm (R := Fr noB) (C := fun _ w' => Fr noB wa w') [false, false, false, false, false, false, false, false, false, false, false, false, false, false, false, false, false, false, false, false, false, false, false, false, false, false, false, false, false, false, false, false, false, false, false, false, false]
    [eqv _, eqv _, eqv _, eqv _, eqv (.bool true), eqv (.bool true), eqv _, eqv (.int .u64 ((b : Int) + n)), eqv _, eqv (.int .u64 ((b : Int) + n)), eqv (.bool true), eqv (.bool true), eqv (.bool true), eqv _, eqv (.int .i64 n), eqv _, eqv _, eqv (.int .i64 n), eqv (.bool true), eqv (.bool true), eqv (.bool true), eqv _, eqv (.bool v), eqv _, eqv _, eqv (.int .i64 n), eqv (.bool v), eqv (.bool true), eqv (.bool true), eqv (.bool true), eqv _, OwnE w.heap.size noB (fun _ _ h => h) es, eqv _, eqv _, eqv (.bool true), eqv (.bool true), eqv (.bool true)]
    (by kernel_rfl) (by kernel_rfl) (fun _ _ _ h1 h2 => h1.then' h2) ((Fr.refl _ _).drew) ((Fr.refl _ _).drew) (by kernel_rfl)
  · refine ⟨?_, ?_, ?_, ?_, ?_, ?_, ?_, ?_, ?_, ?_, ?_, ?_, ?_, ?_, ?_, ?_, ?_, ?_, ?_, ?_, ?_, ?_, ?_, ?_, ?_, ?_, ?_, ?_, ?_, ?_, ?_, ?_, ?_, ?_, ?_, ?_, ?_, trivial⟩
    · rw [if_neg (by decide)]; intro kq
      exact calm_mv 0 rfl rfl (Or.inl rfl) (Fr.refl _) (by decide) fun v w hd => hd
    · rw [if_neg (by decide)]; intro kq
      intro a W K hC hd hK
      have d5 : _ = _ := hd 5 (by decide)
      refine wpOp_plain rfl rfl ?_
      obtain ⟨x0, x1, xf⟩ := BlkAt.c2 (hb0.fr hC id)
      go_wp2_with fail
      refine (hba W (h.fr0 (f0.then' hC))).mono ?_
      rintro e9 w9 ⟨rfl, f9⟩
      exact hK _ _ f9 (hC.then' f9) rfl
    · rw [if_neg (by decide)]; intro kq
      intro a W K hC hd hK
      have d3 : a.tmps[3]?.getD undef = .pointer (some ⟨w.heap.size, 0, none⟩) := hd 3 (by decide)
      refine wpOp_plain rfl rfl ?_
      obtain ⟨x0, x1, xf⟩ := BlkAt.c2 (hb0.fr hC id)
      go_wp2_with fail
      exact hK _ _ (Fr.refl _ _) hC rfl
    · rw [if_neg (by decide)]; intro kq
      intro a W K hC hd hK
      have d7 : _ = _ := hd 7 (by decide)
      refine wpOp_plain rfl rfl ?_
      obtain ⟨x0, x1, xf⟩ := BlkAt.c2 (hb0.fr hC id)
      go_wp2_with fail
      exact hK _ _ (Fr.refl _ _) hC rfl
    · rw [if_neg (by decide)]; intro kq
      intro a W K hC hd hK
      have d6 : _ = _ := hd 6 (by decide)
      have d8 : _ = _ := hd 8 (by decide)
      refine wpOp_plain rfl rfl ?_
      go_wp2_with fail
      exact hK _ _ (Fr.refl _ _) hC rfl
    · rw [if_neg (by decide)]; intro kq
      exact calm_mv 9 rfl rfl (Or.inl rfl) (Fr.refl _) (by decide) fun v w hd => hd
    · rw [if_neg (by decide)]; intro kq
      intro a W K hC hd hK
      have d0 : a.tmps[0]?.getD undef = .pointer (some ⟨p, 0, none⟩) := hd 0 (by decide)
      have d10 : a.tmps[10]?.getD undef = .bool true := hd 10 (by decide)
      first | (exact wpOp_skip rfl (wanted_of (want := true) (b := false) rfl rfl (by rw [eval_get]; exact d10)) (hK _ _ (Fr.refl _ _) hC rfl)) | (refine wpOp_want rfl (wanted_of (want := true) (b := true) rfl rfl (by rw [eval_get]; exact d10)) ?_)
      all_goals (
        go_wp2_with fail
        exact hK _ _ (Fr.refl _ _) hC rfl)
    · rw [if_neg (by decide)]; intro kq
      intro a W K hC hd hK
      have d11 : _ = _ := hd 11 (by decide)
      have d10 : a.tmps[10]?.getD undef = .bool true := hd 10 (by decide)
      first | (exact wpOp_skip rfl (wanted_of (want := true) (b := false) rfl rfl (by rw [eval_get]; exact d10)) (hK _ _ (Fr.refl _ _) hC rfl)) | (refine wpOp_want rfl (wanted_of (want := true) (b := true) rfl rfl (by rw [eval_get]; exact d10)) ?_)
      all_goals (
        obtain ⟨x0, x1, xf⟩ := BlkAt.c2 (hb0.fr hC id)
        go_wp2_with fail
        refine (hla W (h.fr0 (f0.then' hC))).mono ?_
        rintro e9 w9 ⟨rfl, f9⟩
        exact hK _ _ f9 (hC.then' f9) rfl)
    · rw [if_neg (by decide)]; intro kq
      intro a W K hC hd hK
      have d3 : a.tmps[3]?.getD undef = .pointer (some ⟨w.heap.size, 0, none⟩) := hd 3 (by decide)
      have d10 : a.tmps[10]?.getD undef = .bool true := hd 10 (by decide)
      first | (exact wpOp_skip rfl (wanted_of (want := true) (b := false) rfl rfl (by rw [eval_get]; exact d10)) (hK _ _ (Fr.refl _ _) hC rfl)) | (refine wpOp_want rfl (wanted_of (want := true) (b := true) rfl rfl (by rw [eval_get]; exact d10)) ?_)
      all_goals (
        obtain ⟨x0, x1, xf⟩ := BlkAt.c2 (hb0.fr hC id)
        go_wp2_with fail
        exact hK _ _ (Fr.refl _ _) hC rfl)
    · rw [if_neg (by decide)]; intro kq
      intro a W K hC hd hK
      have d13 : _ = _ := hd 13 (by decide)
      have d10 : a.tmps[10]?.getD undef = .bool true := hd 10 (by decide)
      first | (exact wpOp_skip rfl (wanted_of (want := true) (b := false) rfl rfl (by rw [eval_get]; exact d10)) (hK _ _ (Fr.refl _ _) hC rfl)) | (refine wpOp_want rfl (wanted_of (want := true) (b := true) rfl rfl (by rw [eval_get]; exact d10)) ?_)
      all_goals (
        obtain ⟨x0, x1, xf⟩ := BlkAt.c2 (hb0.fr hC id)
        go_wp2_with fail
        refine (hlr W).mono ?_
        rintro e9 w9 ⟨rfl, f9⟩
        exact hK _ _ f9 (hC.then' f9) rfl)
    · rw [if_neg (by decide)]; intro kq
      intro a W K hC hd hK
      have d12 : a.tmps[12]?.getD undef = .int .u64 ((b : Int) + n) := hd 12 (by decide)
      have d14 : a.tmps[14]?.getD undef = .int .u64 ((b : Int) + n) := hd 14 (by decide)
      have d10 : a.tmps[10]?.getD undef = .bool true := hd 10 (by decide)
      first | (exact wpOp_skip rfl (wanted_of (want := true) (b := false) rfl rfl (by rw [eval_get]; exact d10)) (hK _ _ (Fr.refl _ _) hC rfl)) | (refine wpOp_want rfl (wanted_of (want := true) (b := true) rfl rfl (by rw [eval_get]; exact d10)) ?_)
      all_goals (
        go_wp2_with fail
        exact hK _ _ (Fr.refl _ _) hC rfl)
    · rw [if_neg (by decide)]; intro kq
      intro a W K hC hd hK
      have d10 : a.tmps[10]?.getD undef = .bool true := hd 10 (by decide)
      have d15 : a.tmps[15]?.getD undef = .bool true := hd 15 (by decide)
      refine wpOp_plain rfl rfl ?_
      go_wp2_with fail
      exact hK _ _ (Fr.refl _ _) hC rfl
    · rw [if_neg (by decide)]; intro kq
      exact calm_mv 16 rfl rfl (Or.inl rfl) (Fr.refl _) (by decide) fun v w hd => hd
    · rw [if_neg (by decide)]; intro kq
      intro a W K hC hd hK
      have d0 : a.tmps[0]?.getD undef = .pointer (some ⟨p, 0, none⟩) := hd 0 (by decide)
      have d17 : a.tmps[17]?.getD undef = .bool true := hd 17 (by decide)
      first | (exact wpOp_skip rfl (wanted_of (want := true) (b := false) rfl rfl (by rw [eval_get]; exact d17)) (hK _ _ (Fr.refl _ _) hC rfl)) | (refine wpOp_want rfl (wanted_of (want := true) (b := true) rfl rfl (by rw [eval_get]; exact d17)) ?_)
      all_goals (
        go_wp2_with fail
        exact hK _ _ (Fr.refl _ _) hC rfl)
    · rw [if_neg (by decide)]; intro kq
      intro a W K hC hd hK
      have d18 : _ = _ := hd 18 (by decide)
      have d17 : a.tmps[17]?.getD undef = .bool true := hd 17 (by decide)
      first | (exact wpOp_skip rfl (wanted_of (want := true) (b := false) rfl rfl (by rw [eval_get]; exact d17)) (hK _ _ (Fr.refl _ _) hC rfl)) | (refine wpOp_want rfl (wanted_of (want := true) (b := true) rfl rfl (by rw [eval_get]; exact d17)) ?_)
      all_goals (
        obtain ⟨x0, x1, xf⟩ := BlkAt.c2 (hb0.fr hC id)
        go_wp2_with fail
        refine (hle W (h.fr0 (f0.then' hC))).mono ?_
        rintro e9 w9 ⟨rfl, f9⟩
        exact hK _ _ f9 (hC.then' f9) rfl)
    · rw [if_neg (by decide)]; intro kq
      intro a W K hC hd hK
      have d3 : a.tmps[3]?.getD undef = .pointer (some ⟨w.heap.size, 0, none⟩) := hd 3 (by decide)
      have d17 : a.tmps[17]?.getD undef = .bool true := hd 17 (by decide)
      first | (exact wpOp_skip rfl (wanted_of (want := true) (b := false) rfl rfl (by rw [eval_get]; exact d17)) (hK _ _ (Fr.refl _ _) hC rfl)) | (refine wpOp_want rfl (wanted_of (want := true) (b := true) rfl rfl (by rw [eval_get]; exact d17)) ?_)
      all_goals (
        obtain ⟨x0, x1, xf⟩ := BlkAt.c2 (hb0.fr hC id)
        go_wp2_with fail
        exact hK _ _ (Fr.refl _ _) hC rfl)
    · rw [if_neg (by decide)]; intro kq
      intro a W K hC hd hK
      have d20 : _ = _ := hd 20 (by decide)
      have d17 : a.tmps[17]?.getD undef = .bool true := hd 17 (by decide)
      first | (exact wpOp_skip rfl (wanted_of (want := true) (b := false) rfl rfl (by rw [eval_get]; exact d17)) (hK _ _ (Fr.refl _ _) hC rfl)) | (refine wpOp_want rfl (wanted_of (want := true) (b := true) rfl rfl (by rw [eval_get]; exact d17)) ?_)
      all_goals (
        obtain ⟨x0, x1, xf⟩ := BlkAt.c2 (hb0.fr hC id)
        go_wp2_with fail
        exact hK _ _ (Fr.refl _ _) hC rfl)
    · rw [if_neg (by decide)]; intro kq
      intro a W K hC hd hK
      have d21 : _ = _ := hd 21 (by decide)
      have d17 : a.tmps[17]?.getD undef = .bool true := hd 17 (by decide)
      first | (exact wpOp_skip rfl (wanted_of (want := true) (b := false) rfl rfl (by rw [eval_get]; exact d17)) (hK _ _ (Fr.refl _ _) hC rfl)) | (refine wpOp_want rfl (wanted_of (want := true) (b := true) rfl rfl (by rw [eval_get]; exact d17)) ?_)
      all_goals (
        obtain ⟨x0, x1, xf⟩ := BlkAt.c2 (hb0.fr hC id)
        go_wp2_with fail
        exact hK _ _ (Fr.refl _ _) hC rfl)
    · rw [if_neg (by decide)]; intro kq
      intro a W K hC hd hK
      have d19 : a.tmps[19]?.getD undef = .int .i64 n := hd 19 (by decide)
      have d22 : a.tmps[22]?.getD undef = .int .i64 n := hd 22 (by decide)
      have d17 : a.tmps[17]?.getD undef = .bool true := hd 17 (by decide)
      first | (exact wpOp_skip rfl (wanted_of (want := true) (b := false) rfl rfl (by rw [eval_get]; exact d17)) (hK _ _ (Fr.refl _ _) hC rfl)) | (refine wpOp_want rfl (wanted_of (want := true) (b := true) rfl rfl (by rw [eval_get]; exact d17)) ?_)
      all_goals (
        go_wp2_with fail
        exact hK _ _ (Fr.refl _ _) hC rfl)
    · rw [if_neg (by decide)]; intro kq
      intro a W K hC hd hK
      have d17 : a.tmps[17]?.getD undef = .bool true := hd 17 (by decide)
      have d23 : a.tmps[23]?.getD undef = .bool true := hd 23 (by decide)
      refine wpOp_plain rfl rfl ?_
      go_wp2_with fail
      exact hK _ _ (Fr.refl _ _) hC rfl
    · rw [if_neg (by decide)]; intro kq
      exact calm_mv 24 rfl rfl (Or.inl rfl) (Fr.refl _) (by decide) fun v w hd => hd
    · rw [if_neg (by decide)]; intro kq
      intro a W K hC hd hK
      have d0 : a.tmps[0]?.getD undef = .pointer (some ⟨p, 0, none⟩) := hd 0 (by decide)
      have d25 : a.tmps[25]?.getD undef = .bool true := hd 25 (by decide)
      first | (exact wpOp_skip rfl (wanted_of (want := true) (b := false) rfl rfl (by rw [eval_get]; exact d25)) (hK _ _ (Fr.refl _ _) hC rfl)) | (refine wpOp_want rfl (wanted_of (want := true) (b := true) rfl rfl (by rw [eval_get]; exact d25)) ?_)
      all_goals (
        go_wp2_with fail
        exact hK _ _ (Fr.refl _ _) hC rfl)
    · rw [if_neg (by decide)]; intro kq
      intro a W K hC hd hK
      have d26 : _ = _ := hd 26 (by decide)
      have d25 : a.tmps[25]?.getD undef = .bool true := hd 25 (by decide)
      first | (exact wpOp_skip rfl (wanted_of (want := true) (b := false) rfl rfl (by rw [eval_get]; exact d25)) (hK _ _ (Fr.refl _ _) hC rfl)) | (refine wpOp_want rfl (wanted_of (want := true) (b := true) rfl rfl (by rw [eval_get]; exact d25)) ?_)
      all_goals (
        obtain ⟨x0, x1, xf⟩ := BlkAt.c2 (hb0.fr hC id)
        go_wp2_with fail
        refine (hfu W (h.fr0 (f0.then' hC))).mono ?_
        rintro e9 w9 ⟨rfl, f9⟩
        exact hK _ _ f9 (hC.then' f9) rfl)
    · rw [if_neg (by decide)]; intro kq
      intro a W K hC hd hK
      have d3 : a.tmps[3]?.getD undef = .pointer (some ⟨w.heap.size, 0, none⟩) := hd 3 (by decide)
      have d25 : a.tmps[25]?.getD undef = .bool true := hd 25 (by decide)
      first | (exact wpOp_skip rfl (wanted_of (want := true) (b := false) rfl rfl (by rw [eval_get]; exact d25)) (hK _ _ (Fr.refl _ _) hC rfl)) | (refine wpOp_want rfl (wanted_of (want := true) (b := true) rfl rfl (by rw [eval_get]; exact d25)) ?_)
      all_goals (
        obtain ⟨x0, x1, xf⟩ := BlkAt.c2 (hb0.fr hC id)
        go_wp2_with fail
        exact hK _ _ (Fr.refl _ _) hC rfl)
    · rw [if_neg (by decide)]; intro kq
      intro a W K hC hd hK
      have d28 : _ = _ := hd 28 (by decide)
      have d25 : a.tmps[25]?.getD undef = .bool true := hd 25 (by decide)
      first | (exact wpOp_skip rfl (wanted_of (want := true) (b := false) rfl rfl (by rw [eval_get]; exact d25)) (hK _ _ (Fr.refl _ _) hC rfl)) | (refine wpOp_want rfl (wanted_of (want := true) (b := true) rfl rfl (by rw [eval_get]; exact d25)) ?_)
      all_goals (
        obtain ⟨x0, x1, xf⟩ := BlkAt.c2 (hb0.fr hC id)
        go_wp2_with fail
        exact hK _ _ (Fr.refl _ _) hC rfl)
    · rw [if_neg (by decide)]; intro kq
      intro a W K hC hd hK
      have d29 : _ = _ := hd 29 (by decide)
      have d25 : a.tmps[25]?.getD undef = .bool true := hd 25 (by decide)
      first | (exact wpOp_skip rfl (wanted_of (want := true) (b := false) rfl rfl (by rw [eval_get]; exact d25)) (hK _ _ (Fr.refl _ _) hC rfl)) | (refine wpOp_want rfl (wanted_of (want := true) (b := true) rfl rfl (by rw [eval_get]; exact d25)) ?_)
      all_goals (
        obtain ⟨x0, x1, xf⟩ := BlkAt.c2 (hb0.fr hC id)
        go_wp2_with fail
        exact hK _ _ (Fr.refl _ _) hC rfl)
    · rw [if_neg (by decide)]; intro kq
      intro a W K hC hd hK
      have d30 : a.tmps[30]?.getD undef = .int .i64 n := hd 30 (by decide)
      have d25 : a.tmps[25]?.getD undef = .bool true := hd 25 (by decide)
      first | (exact wpOp_skip rfl (wanted_of (want := true) (b := false) rfl rfl (by rw [eval_get]; exact d25)) (hK _ _ (Fr.refl _ _) hC rfl)) | (refine wpOp_want rfl (wanted_of (want := true) (b := true) rfl rfl (by rw [eval_get]; exact d25)) ?_)
      all_goals (
        go_wp2_with fail
        exact hK _ _ (Fr.refl _ _) hC rfl)
    · rw [if_neg (by decide)]; intro kq
      intro a W K hC hd hK
      have d27 : a.tmps[27]?.getD undef = .bool v := hd 27 (by decide)
      have d31 : a.tmps[31]?.getD undef = .bool v := hd 31 (by decide)
      have d25 : a.tmps[25]?.getD undef = .bool true := hd 25 (by decide)
      first | (exact wpOp_skip rfl (wanted_of (want := true) (b := false) rfl rfl (by rw [eval_get]; exact d25)) (hK _ _ (Fr.refl _ _) hC rfl)) | (refine wpOp_want rfl (wanted_of (want := true) (b := true) rfl rfl (by rw [eval_get]; exact d25)) ?_)
      all_goals (
        go_wp2_with fail
        exact hK _ _ (Fr.refl _ _) hC rfl)
    · rw [if_neg (by decide)]; intro kq
      intro a W K hC hd hK
      have d25 : a.tmps[25]?.getD undef = .bool true := hd 25 (by decide)
      have d32 : a.tmps[32]?.getD undef = .bool true := hd 32 (by decide)
      refine wpOp_plain rfl rfl ?_
      go_wp2_with fail
      exact hK _ _ (Fr.refl _ _) hC rfl
    · rw [if_neg (by decide)]; intro kq
      exact calm_mv 33 rfl rfl (Or.inl rfl) (Fr.refl _) (by decide) fun v w hd => hd
    · rw [if_neg (by decide)]; intro kq
      intro a W K hC hd hK
      have d0 : a.tmps[0]?.getD undef = .pointer (some ⟨p, 0, none⟩) := hd 0 (by decide)
      have d34 : a.tmps[34]?.getD undef = .bool true := hd 34 (by decide)
      first | (exact wpOp_skip rfl (wanted_of (want := true) (b := false) rfl rfl (by rw [eval_get]; exact d34)) (hK _ _ (Fr.refl _ _) hC rfl)) | (refine wpOp_want rfl (wanted_of (want := true) (b := true) rfl rfl (by rw [eval_get]; exact d34)) ?_)
      all_goals (
        go_wp2_with fail
        exact hK _ _ (Fr.refl _ _) hC rfl)
    · rw [if_neg (by decide)]; intro kq
      intro a W K hC hd hK
      have d35 : _ = _ := hd 35 (by decide)
      have d34 : a.tmps[34]?.getD undef = .bool true := hd 34 (by decide)
      first | (exact wpOp_skip rfl (wanted_of (want := true) (b := false) rfl rfl (by rw [eval_get]; exact d34)) (hK _ _ (Fr.refl _ _) hC rfl)) | (refine wpOp_want rfl (wanted_of (want := true) (b := true) rfl rfl (by rw [eval_get]; exact d34)) ?_)
      all_goals (
        obtain ⟨x0, x1, xf⟩ := BlkAt.c2 (hb0.fr hC id)
        go_wp2_with fail
        refine (hfr W (h.fr0 (f0.then' hC))).mono ?_
        rintro e9 w9 ⟨A9, n9, c9, rfl, hn9, h9, f9⟩
        exact hK _ _ f9 (hC.then' f9) ⟨A9, n9, c9, rfl, hn9, own_mono h9 (fun g hg => Nat.le_trans (f0.then' hC).size (h9.lt g hg).1)⟩)
    · rw [if_neg (by decide)]; intro kq
      intro a W K hC hd hK
      have d3 : a.tmps[3]?.getD undef = .pointer (some ⟨w.heap.size, 0, none⟩) := hd 3 (by decide)
      have d34 : a.tmps[34]?.getD undef = .bool true := hd 34 (by decide)
      first | (exact wpOp_skip rfl (wanted_of (want := true) (b := false) rfl rfl (by rw [eval_get]; exact d34)) (hK _ _ (Fr.refl _ _) hC rfl)) | (refine wpOp_want rfl (wanted_of (want := true) (b := true) rfl rfl (by rw [eval_get]; exact d34)) ?_)
      all_goals (
        obtain ⟨x0, x1, xf⟩ := BlkAt.c2 (hb0.fr hC id)
        go_wp2_with fail
        exact hK _ _ (Fr.refl _ _) hC rfl)
    · rw [if_neg (by decide)]; intro kq
      intro a W K hC hd hK
      have d37 : _ = _ := hd 37 (by decide)
      have d34 : a.tmps[34]?.getD undef = .bool true := hd 34 (by decide)
      first | (exact wpOp_skip rfl (wanted_of (want := true) (b := false) rfl rfl (by rw [eval_get]; exact d34)) (hK _ _ (Fr.refl _ _) hC rfl)) | (refine wpOp_want rfl (wanted_of (want := true) (b := true) rfl rfl (by rw [eval_get]; exact d34)) ?_)
      all_goals (
        obtain ⟨x0, x1, xf⟩ := BlkAt.c2 (hb0.fr hC id)
        go_wp2_with fail
        exact hK _ _ (Fr.refl _ _) hC rfl)
    · rw [if_neg (by decide)]; intro kq
      intro a W K hC hd hK
      have d36 : (OwnE w.heap.size noB (fun _ _ h => h) es).V (a.tmps[36]?.getD undef) W := hd 36 (by decide)
      have d38 : _ = _ := hd 38 (by decide)
      have d34 : a.tmps[34]?.getD undef = .bool true := hd 34 (by decide)
      first | (exact wpOp_skip rfl (wanted_of (want := true) (b := false) rfl rfl (by rw [eval_get]; exact d34)) (hK _ _ (Fr.refl _ _) hC rfl)) | (refine wpOp_want rfl (wanted_of (want := true) (b := true) rfl rfl (by rw [eval_get]; exact d34)) ?_)
      all_goals (
        obtain ⟨x0, x1, xf⟩ := BlkAt.c2 (hb0.fr hC id)
        obtain ⟨A9, n9, c9, d36, hn9, h9⟩ := d36
        go_wp2_with fail
        refine (hsm W A9 n9 c9 (RefA.of_own hn9 h9) (hR.fr0 (f0.then' hC))).mono ?_
        rintro e9 w9 ⟨rfl, f9⟩
        exact hK _ _ f9 (hC.then' f9) rfl)
    · rw [if_neg (by decide)]; intro kq
      intro a W K hC hd hK
      have d34 : a.tmps[34]?.getD undef = .bool true := hd 34 (by decide)
      have d39 : a.tmps[39]?.getD undef = .bool true := hd 39 (by decide)
      refine wpOp_plain rfl rfl ?_
      go_wp2_with fail
      exact hK _ _ (Fr.refl _ _) hC rfl
    · rw [if_neg (by decide)]; intro kq
      exact calm_mv 40 rfl rfl (Or.inr rfl) (Fr.refl _) (by decide) fun v w hd => hd
  · intro vs w8 fw8 cw8 hV
    have v5 : vs 0 = _ := hV 0 _ _ rfl rfl (by decide)
    have v6 : vs 1 = _ := hV 1 _ _ rfl rfl (by decide)
    have v7 : vs 2 = _ := hV 2 _ _ rfl rfl (by decide)
    have v8 : vs 3 = _ := hV 3 _ _ rfl rfl (by decide)
    have v9 : vs 4 = .bool true := hV 4 _ _ rfl rfl (by decide)
    have v10 : vs 5 = .bool true := hV 5 _ _ rfl rfl (by decide)
    have v11 : vs 6 = _ := hV 6 _ _ rfl rfl (by decide)
    have v12 : vs 7 = .int .u64 ((b : Int) + n) := hV 7 _ _ rfl rfl (by decide)
    have v13 : vs 8 = _ := hV 8 _ _ rfl rfl (by decide)
    have v14 : vs 9 = .int .u64 ((b : Int) + n) := hV 9 _ _ rfl rfl (by decide)
    have v15 : vs 10 = .bool true := hV 10 _ _ rfl rfl (by decide)
    have v16 : vs 11 = .bool true := hV 11 _ _ rfl rfl (by decide)
    have v17 : vs 12 = .bool true := hV 12 _ _ rfl rfl (by decide)
    have v18 : vs 13 = _ := hV 13 _ _ rfl rfl (by decide)
    have v19 : vs 14 = .int .i64 n := hV 14 _ _ rfl rfl (by decide)
    have v20 : vs 15 = _ := hV 15 _ _ rfl rfl (by decide)
    have v21 : vs 16 = _ := hV 16 _ _ rfl rfl (by decide)
    have v22 : vs 17 = .int .i64 n := hV 17 _ _ rfl rfl (by decide)
    have v23 : vs 18 = .bool true := hV 18 _ _ rfl rfl (by decide)
    have v24 : vs 19 = .bool true := hV 19 _ _ rfl rfl (by decide)
    have v25 : vs 20 = .bool true := hV 20 _ _ rfl rfl (by decide)
    have v26 : vs 21 = _ := hV 21 _ _ rfl rfl (by decide)
    have v27 : vs 22 = .bool v := hV 22 _ _ rfl rfl (by decide)
    have v28 : vs 23 = _ := hV 23 _ _ rfl rfl (by decide)
    have v29 : vs 24 = _ := hV 24 _ _ rfl rfl (by decide)
    have v30 : vs 25 = .int .i64 n := hV 25 _ _ rfl rfl (by decide)
    have v31 : vs 26 = .bool v := hV 26 _ _ rfl rfl (by decide)
    have v32 : vs 27 = .bool true := hV 27 _ _ rfl rfl (by decide)
    have v33 : vs 28 = .bool true := hV 28 _ _ rfl rfl (by decide)
    have v34 : vs 29 = .bool true := hV 29 _ _ rfl rfl (by decide)
    have v35 : vs 30 = _ := hV 30 _ _ rfl rfl (by decide)
    have v36 : (OwnE w.heap.size noB (fun _ _ h => h) es).V (vs 31) w8 := hV 31 _ _ rfl rfl (by decide)
    have v37 : vs 32 = _ := hV 32 _ _ rfl rfl (by decide)
    have v38 : vs 33 = _ := hV 33 _ _ rfl rfl (by decide)
    have v39 : vs 34 = .bool true := hV 34 _ _ rfl rfl (by decide)
    have v40 : vs 35 = .bool true := hV 35 _ _ rfl rfl (by decide)
    have v4 : vs 36 = .bool true := hV 36 _ _ rfl rfl (by decide)
    clear hV
    simp only [putL, Act.put, Nat.reduceAdd, List.setIfInBounds_toArray, List.set_cons_zero, List.set_cons_succ, v5, v6, v7, v8, v9, v10, v11, v12, v13, v14, v15, v16, v17, v18, v19, v20, v21, v22, v23, v24, v25, v26, v27, v28, v29, v30, v31, v32, v33, v34, v35, v37, v38, v39, v40, v4]
    go_wp2_with fail
    go_ret
    exact BoolPost.mk' rfl (f0.then' fw8)
def BuiltS (n0 b : Nat) (es : List EnV) : Stb (Fr noB) :=
  ⟨fun v W => ∃ A n c, v = .agg #[.int .u64 b, .slice A n c] ∧ Hid (es.length = n) ∧ W.ownsRow n0 42 9 (.slice A n c) n (es.flatMap EnV.C),
   fun _ _ _ ⟨A, n, c, h1, h2, h3⟩ f => ⟨A, n, c, h1, h2, own_fr h3 f (fun _ _ => id)⟩⟩
def LogS (n0 b : Nat) (es : List EnV) : Stb (Fr noB) :=
  ⟨fun v W => ∃ q, v = .pointer (some ⟨q, 0, none⟩) ∧ LogA W (upB n0) q b es, fun _ _ _ ⟨q, h1, h2⟩ f => ⟨q, h1, h2.fr0 f⟩⟩
set_option maxRecDepth 100000 in
set_option maxHeartbeats 1600000 in
theorem copyL_calls (w : World) (U : Nat → Prop) (p b : Nat) (es : List EnV) (h : LogA w U p b es) (hw : es.length ≤ 1000000) :
    Calls Tryd.prog 76 #[.pointer (some ⟨p, 0, none⟩)] w (fun e w' => ∃ q, e = .returned (.pointer (some ⟨q, 0, none⟩)) ∧ LogA w' (upB w.heap.size) q b es ∧ Fr noB w w') := by
  obtain ⟨A, n, c, hn, hB, hO, hUp, hgp⟩ := h
  obtain ⟨_, _, _, hnil⟩ := ownE_caps hO
  have hrow := own_row hO
  rw [hn.out] at hw
  have hcl := fun W h => cloneE_calls W A n c es h hn hnil (by omega)
  clear hO hgp
  go_enter Tryd.func76, Tryd.ntmps76
  go_wp2_with fail
  apply wp_region_calm (R := Fr noB) (C := fun _ w' => Fr noB w w') [false, false, false, false, false, false, false, false, false, false, false, false]
    [eqv _, eqv _, eqv _, eqv _, eqv _, eqv _, eqv _, eqv _, OwnE w.heap.size noB (fun _ _ h => h) es, BuiltS w.heap.size b es, LogS w.heap.size b es, LogS w.heap.size b es]
    (by kernel_rfl) (by kernel_rfl) (fun _ _ _ h1 h2 => h1.then' h2) ((Fr.refl _ _).drew) ((Fr.refl _ _).drew) (by kernel_rfl)
  · refine ⟨?_, ?_, ?_, ?_, ?_, ?_, ?_, ?_, ?_, ?_, ?_, ?_, trivial⟩
    · rw [if_neg (by decide)]; intro kq
      exact calm_mv 0 rfl rfl (Or.inl rfl) (Fr.refl _) (by decide) fun v w hd => hd
    · rw [if_neg (by decide)]; intro kq
      intro a W K hC hd hK
      have d3 : _ = _ := hd 3 (by decide)
      refine wpOp_plain rfl rfl ?_
      go_wp2_with fail
      exact hK _ _ (Fr.refl _ _) hC rfl
    · rw [if_neg (by decide)]; intro kq
      intro a W K hC hd hK
      have d4 : _ = _ := hd 4 (by decide)
      refine wpOp_plain rfl rfl ?_
      obtain ⟨x0, x1, xf⟩ := BlkAt.c2 (hB.fr hC id)
      go_wp2_with fail
      exact hK _ _ (Fr.refl _ _) hC rfl
    · rw [if_neg (by decide)]; intro kq
      intro a W K hC hd hK
      have d5 : _ = _ := hd 5 (by decide)
      refine wpOp_plain rfl rfl ?_
      obtain ⟨x0, x1, xf⟩ := BlkAt.c2 (hB.fr hC id)
      go_wp2_with fail
      exact hK _ _ (Fr.refl _ _) hC rfl
    · rw [if_neg (by decide)]; intro kq
      exact calm_mv 0 rfl rfl (Or.inl rfl) (Fr.refl _) (by decide) fun v w hd => hd
    · rw [if_neg (by decide)]; intro kq
      intro a W K hC hd hK
      have d7 : _ = _ := hd 7 (by decide)
      refine wpOp_plain rfl rfl ?_
      go_wp2_with fail
      exact hK _ _ (Fr.refl _ _) hC rfl
    · rw [if_neg (by decide)]; intro kq
      intro a W K hC hd hK
      have d8 : _ = _ := hd 8 (by decide)
      refine wpOp_plain rfl rfl ?_
      obtain ⟨x0, x1, xf⟩ := BlkAt.c2 (hB.fr hC id)
      go_wp2_with fail
      exact hK _ _ (Fr.refl _ _) hC rfl
    · rw [if_neg (by decide)]; intro kq
      intro a W K hC hd hK
      have d9 : _ = _ := hd 9 (by decide)
      refine wpOp_plain rfl rfl ?_
      obtain ⟨x0, x1, xf⟩ := BlkAt.c2 (hB.fr hC id)
      go_wp2_with fail
      exact hK _ _ (Fr.refl _ _) hC rfl
    · rw [if_neg (by decide)]; intro kq
      intro a W K hC hd hK
      have d10 : _ = _ := hd 10 (by decide)
      refine wpOp_plain rfl rfl ?_
      obtain ⟨x0, x1, xf⟩ := BlkAt.c2 (hB.fr hC id)
      go_wp2_with fail
      refine (hcl W (hrow.fr0 hC)).mono ?_
      rintro e9 w9 ⟨A9, c9, rfl, h9, f9⟩
      exact hK _ _ f9 (hC.then' f9) ⟨A9, n, c9, rfl, hn, own_mono h9 (fun g hg => Nat.le_trans hC.size (h9.lt g hg).1)⟩
    · rw [if_neg (by decide)]; intro kq
      intro a W K hC hd hK
      have d6 : _ = _ := hd 6 (by decide)
      have d11 : (OwnE w.heap.size noB (fun _ _ h => h) es).V (a.tmps[11]?.getD undef) W := hd 11 (by decide)
      refine wpOp_plain rfl rfl ?_
      obtain ⟨A9, n9, c9, d11, hn9, h9⟩ := d11
      go_wp2_with fail
      exact hK _ _ (Fr.refl _ _) hC ⟨A9, n9, c9, rfl, hn9, h9⟩
    · rw [if_neg (by decide)]; intro kq
      intro a W K hC hd hK
      have d12 : (BuiltS w.heap.size b es).V (a.tmps[12]?.getD undef) W := hd 12 (by decide)
      refine wpOp_plain rfl rfl ?_
      obtain ⟨A9, n9, c9, d12, hn9, h9⟩ := d12
      have fa := (Fr.refl noB W).alloc (.cells #[.int .u64 b, .slice A9 n9 c9] 120)
      have hnw := BlkAt.new W #[.int .u64 b, .slice A9 n9 c9] 120
      go_wp2_with fail
      exact hK _ _ fa (hC.then' fa) ⟨W.heap.size, rfl, A9, n9, c9, hn9, hnw, own_mono (own_fr h9 fa (fun _ _ => id)) (fun _ _ => Nat.zero_le _), hC.size, fun g hg => ⟨(h9.lt g hg).1, Nat.ne_of_lt (h9.lt g hg).2⟩⟩
    · rw [if_neg (by decide)]; intro kq
      intro a W K hC hd hK
      have d13 : (LogS w.heap.size b es).V (a.tmps[13]?.getD undef) W := hd 13 (by decide)
      refine wpOp_plain rfl rfl ?_
      obtain ⟨q9, d13, h9⟩ := d13
      go_wp2_with fail
      exact hK _ _ (Fr.refl _ _) hC ⟨q9, rfl, h9⟩
  · intro vs w8 fw8 cw8 hV
    have v3 : vs 0 = _ := hV 0 _ _ rfl rfl (by decide)
    have v4 : vs 1 = _ := hV 1 _ _ rfl rfl (by decide)
    have v5 : vs 2 = _ := hV 2 _ _ rfl rfl (by decide)
    have v6 : vs 3 = _ := hV 3 _ _ rfl rfl (by decide)
    have v7 : vs 4 = _ := hV 4 _ _ rfl rfl (by decide)
    have v8 : vs 5 = _ := hV 5 _ _ rfl rfl (by decide)
    have v9 : vs 6 = _ := hV 6 _ _ rfl rfl (by decide)
    have v10 : vs 7 = _ := hV 7 _ _ rfl rfl (by decide)
    have v11 : (OwnE w.heap.size noB (fun _ _ h => h) es).V (vs 8) w8 := hV 8 _ _ rfl rfl (by decide)
    have v12 : (BuiltS w.heap.size b es).V (vs 9) w8 := hV 9 _ _ rfl rfl (by decide)
    have v13 : (LogS w.heap.size b es).V (vs 10) w8 := hV 10 _ _ rfl rfl (by decide)
    have v2 : (LogS w.heap.size b es).V (vs 11) w8 := hV 11 _ _ rfl rfl (by decide)
    clear hV
    simp only [putL, Act.put, Nat.reduceAdd, List.setIfInBounds_toArray, List.set_cons_zero, List.set_cons_succ, v3, v4, v5, v6, v7, v8, v9, v10]
    obtain ⟨q8, e8, h8⟩ := v2
    rw [e8]
    clear cw8 v11 v12 v13 e8
    go_wp2_with fail
    go_ret
    exact ⟨q8, rfl, h8, fw8⟩
end Go.Proofs.YtcaihinenfnekaaDoor
/- log.At; the reference's Find. -/
namespace Go.Proofs.YtcaihinenfnekaaDoor
open Go.RowKit

def atV (b : Nat) (es : List EnV) (k : Nat) : Option EnV := if k ≤ b ∨ lastL b es < k then none else es[k - b - 1]?
def AtC (q4 : Nat) (Z F : Array Value) : Nat → World → Prop
  | 0, W => BlkAt W q4 42 Z
  | _, W => BlkAt W q4 42 F
theorem AtC.fr0 {q4 : Nat} {Z F : Array Value} {q : Nat} {W W' : World} (h : AtC q4 Z F q W) (f : Fr noB W W') : AtC q4 Z F q W' := by
  match q, h with
  | 0, h => exact BlkAt.fr h f id
  | q + 1, h => exact BlkAt.fr h f id
def AtPost (w : World) (o : Option EnV) (ed : Ending) (w' : World) : Prop := ed = .returned (.tuple #[(o.getD zeroE).v, .bool o.isSome]) ∧ Fr noB w w'
theorem zeroE_v : zeroE.v = .agg #[.int .u64 0, .int .u64 0, .int .u8 0, .int .u64 0, .int .u8 0, .string ⟨#[]⟩, .string ⟨#[]⟩, .int .u8 0, .int .u8 0] := rfl
set_option maxRecDepth 100000 in
set_option maxHeartbeats 1600000 in
theorem atL_calls (w : World) (U : Nat → Prop) (p b kk : Nat) (es : List EnV) (h : LogA w U p b es) (hG : GoodL b es) (hk : kk < 18446744073709551616) :
    Calls Tryd.prog 46 #[.pointer (some ⟨p, 0, none⟩), .int .u64 kk] w (AtPost w (atV b es kk)) := by
  have hll := hG.last
  have hw16 := hG.few
  have hla := fun W (hx : LogA W U p b es) => lastL_calls W U p b es hx (by omega)
  have f0 : Fr noB w (w.alloc (.cells #[.int .u64 0, .int .u64 0, .int .u8 0, .int .u64 0, .int .u8 0, .string ⟨#[]⟩, .string ⟨#[]⟩, .int .u8 0, .int .u8 0] 42)) := (Fr.refl noB w).alloc _
  have hb4 : BlkAt (w.alloc (.cells #[.int .u64 0, .int .u64 0, .int .u8 0, .int .u64 0, .int .u8 0, .string ⟨#[]⟩, .string ⟨#[]⟩, .int .u8 0, .int .u8 0] 42)) w.heap.size 42 #[.int .u64 0, .int .u64 0, .int .u8 0, .int .u64 0, .int .u8 0, .string ⟨#[]⟩, .string ⟨#[]⟩, .int .u8 0, .int .u8 0] := BlkAt.new _ _ _
  have hr : Hid (Tryd.f46.results = #[.cell 4 42, .tmp 5]) := by unfold Hid; kernel_rfl
  have hh := h
  obtain ⟨A, n, c, hn, hB, hO, hUp, hgp⟩ := hh
  have hgl : ∀ ad, A = some ad → ad.block < w.heap.size := fun ad e => own_lt hO (by subst e; rfl)
  replace hB := hB.fr f0 id
  replace hO := own_fr hO f0 (fun _ _ => id)
  have H0 : LogA (w.alloc (.cells #[.int .u64 0, .int .u64 0, .int .u8 0, .int .u64 0, .int .u8 0, .string ⟨#[]⟩, .string ⟨#[]⟩, .int .u8 0, .int .u8 0] 42)) U p b es := h.fr0 f0
  have hpl := h.lt
  rw [hn.out] at hw16
  have HLA : Hid (lastL b es = b + n) := by unfold Hid lastL; rw [hn.out]
  have HV : Hid (atV b es kk = if kk ≤ b ∨ lastL b es < kk then none else es[kk - b - 1]?) := rfl
  rw [HLA.out] at HV
  rw [HLA.out] at hla
  have hcl : ((b + n : Nat) : Int) = (b : Int) + n := by omega
  rw [hcl] at hla
  obtain ⟨c1, hc1⟩ : ∃ c, decide (kk ≤ b) = c := ⟨_, rfl⟩
  obtain ⟨c2, hc2⟩ : ∃ c, decide ((b : Int) + n < kk) = c := ⟨_, rfl⟩
  have hd : Hid ((c1 = true ∨ c2 = true) ↔ (kk ≤ b ∨ b + n < kk)) := by unfold Hid; rw [← hc1, ← hc2, decide_eq_true_eq, decide_eq_true_eq]; constructor <;> intro h <;> omega
  generalize atV b es kk = res at *
  have hfs := fun (W : World) (u0 u1 u2 u3 u4 u5 u6 u7 u8 : Value) => fr_set9 W w.heap.size u0 u1 u2 u3 u4 u5 u6 u7 u8
  clear h hgp
  go_enter Tryd.func46, Tryd.ntmps46
  go_upto_region 1 with fail
  generalize (w.alloc (.cells #[.int .u64 0, .int .u64 0, .int .u8 0, .int .u64 0, .int .u8 0, .string ⟨#[]⟩, .string ⟨#[]⟩, .int .u8 0, .int .u8 0] 42)) = wa at *
  obtain ⟨x0, x1, xf⟩ := BlkAt.c2 hB
  have hzz : ∀ (W : World), BlkAt W w.heap.size 42 #[.int .u64 0, .int .u64 0, .int .u8 0, .int .u64 0, .int .u8 0, .string ⟨#[]⟩, .string ⟨#[]⟩, .int .u8 0, .int .u8 0] → BlkAt (((((((((W.setCell ⟨w.heap.size, 0, none⟩ (.int .u64 0)).setCell ⟨w.heap.size, 1, none⟩ (.int .u64 0)).setCell ⟨w.heap.size, 2, none⟩ (.int .u8 0)).setCell ⟨w.heap.size, 3, none⟩ (.int .u64 0)).setCell ⟨w.heap.size, 4, none⟩ (.int .u8 0)).setCell ⟨w.heap.size, 5, none⟩ (.string ⟨#[]⟩)).setCell ⟨w.heap.size, 6, none⟩ (.string ⟨#[]⟩)).setCell ⟨w.heap.size, 7, none⟩ (.int .u8 0)).setCell ⟨w.heap.size, 8, none⟩ (.int .u8 0)) w.heap.size 42 #[.int .u64 0, .int .u64 0, .int .u8 0, .int .u64 0, .int .u8 0, .string ⟨#[]⟩, .string ⟨#[]⟩, .int .u8 0, .int .u8 0] := fun W h => BlkAt.set9 h _ _ _ _ _ _ _ _ _
  cases c1 with
  | true =>
    rw [if_pos (hd.out.1 (Or.inl rfl))] at HV
    obtain ⟨y0, y1, y2, y3, y4, y5, y6, y7, y8, yf⟩ := BlkAt.c9 hb4
    have FF : Fr noB w _ := f0.trans (hfs wa (.int .u64 0) (.int .u64 0) (.int .u8 0) (.int .u64 0) (.int .u8 0) (.string ⟨#[]⟩) (.string ⟨#[]⟩) (.int .u8 0) (.int .u8 0)) (fun i hi h => by unfold eqB at h; omega)
    clear hd hla hO hzz
    go_wp2_with fail
    have hr := hr.out
    exact bodyPost_ret (v := .tuple #[.agg #[.int .u64 0, .int .u64 0, .int .u8 0, .int .u64 0, .int .u8 0, .string ⟨#[]⟩, .string ⟨#[]⟩, .int .u8 0, .int .u8 0], .bool false]) (by simp [results, hr, go_sem, y0, y1, y2, y3, y4, y5, y6, y7, y8]) rfl (by rw [HV.out]; exact ⟨rfl, FF⟩)
  | false =>
    cases c2 with
    | true =>
      rw [if_pos (hd.out.1 (Or.inr rfl))] at HV
      clear hd hO hzz
      go_wp2_with fail
      refine (hla wa H0).mono ?_
      rintro ed w1 ⟨rfl, f1⟩
      obtain ⟨y0, y1, y2, y3, y4, y5, y6, y7, y8, yf⟩ := BlkAt.c9 (hb4.fr f1 id)
      have FF : Fr noB w _ := (f0.then' f1).trans (hfs w1 (.int .u64 0) (.int .u64 0) (.int .u8 0) (.int .u64 0) (.int .u8 0) (.string ⟨#[]⟩) (.string ⟨#[]⟩) (.int .u8 0) (.int .u8 0)) (fun i hi h => by unfold eqB at h; omega)
      clear hla hb4 x0 x1 xf hB
      go_wp2_with fail
      have hr := hr.out
      exact bodyPost_ret (v := .tuple #[.agg #[.int .u64 0, .int .u64 0, .int .u8 0, .int .u64 0, .int .u8 0, .string ⟨#[]⟩, .string ⟨#[]⟩, .int .u8 0, .int .u8 0], .bool false]) (by simp [results, hr, go_sem, y0, y1, y2, y3, y4, y5, y6, y7, y8]) rfl (by rw [HV.out]; exact ⟨rfl, FF⟩)
    | false =>
      have hno : ¬ (kk ≤ b ∨ b + n < kk) := fun h => by rcases hd.out.2 h with h | h <;> cases h
      rw [if_neg hno] at HV
      obtain ⟨e, he⟩ : ∃ e, es[kk - b - 1]? = some e := ⟨_, List.getElem?_eq_getElem (by rw [hn.out]; omega)⟩
      rw [he] at HV
      have hrow := own_row hO
      obtain ⟨ad, rfl⟩ := hrow.some_flat (by simp [EnV.C]) he
      have hseg := hrow.seg 9 (fun _ => rfl) he
      obtain ⟨j, hj⟩ : ∃ j, kk - b - 1 = j := ⟨_, rfl⟩
      rw [hj] at hseg
      have hjn : j < n := by omega
      have hb2 : IntKind.u64.wrap ((kk : Int) - b) = (j + 1 : Nat) := by rw [IntKind.wrap_u64]; omega
      have hb3 : IntKind.u64.wrap (((j + 1 : Nat) : Int) - 1) = j := by rw [IntKind.wrap_u64]; omega
      have hlg : ad.block ≠ w.heap.size := Nat.ne_of_lt (hgl ad rfl)
      obtain ⟨op, view, cl, num, ⟨k, oa, ob, on, or⟩⟩ := e
      unfold EnV.C at hseg
      simp only [] at *
      clear hd hO hno he hj hzz
      go_wp2_with fail
      refine (hla wa H0).mono ?_
      rintro ed w1 ⟨rfl, f1⟩
      replace hB := hB.fr f1 id
      replace hseg := hseg.fr f1 id
      replace hb4 := hb4.fr f1 id
      clear x0 x1 xf hla
      go_wp2_with fail
      apply wp_region_calm (R := Fr (eqB w.heap.size)) (C := fun q W => Fr (eqB w.heap.size) w1 W ∧ AtC w.heap.size #[.int .u64 0, .int .u64 0, .int .u8 0, .int .u64 0, .int .u8 0, .string ⟨#[]⟩, .string ⟨#[]⟩, .int .u8 0, .int .u8 0] #[.int .u64 op, .int .u64 view, .int .u8 cl, .int .u64 num, .int .u8 k, .string oa, .string ob, .int .u8 on, .int .u8 or] q W) [false, false, false, false, false, false, false, false, false, false, false, false, false, true, false]
        [eqv _, eqv _, eqv _, eqv _, eqv _, eqv _, eqv _, eqv _, eqv _, eqv _, eqv _, eqv _, eqv _, anyv, eqv _]
        (by kernel_rfl) (by kernel_rfl) (fun _ _ _ h1 h2 => h1.then' h2) ((Fr.refl _ _).drew) ⟨(Fr.refl _ _).drew, hb4⟩ (by kernel_rfl)
      · refine ⟨?_, ?_, ?_, ?_, ?_, ?_, ?_, ?_, ?_, ?_, ?_, ?_, ?_, ?_, ?_, trivial⟩
        · rw [if_neg (by decide)]; intro kq
          exact calm_mv 0 rfl rfl (Or.inl rfl) (Fr.refl _) (by decide) fun v w hd => hd
        · rw [if_neg (by decide)]; intro kq
          intro a W K hC hd hK
          have d19 : _ = _ := hd 19 (by decide)
          refine wpOp_plain rfl rfl ?_
          go_wp2_with fail
          exact hK _ _ (Fr.refl _ _) hC rfl
        · rw [if_neg (by decide)]; intro kq
          intro a W K hC hd hK
          have d20 : _ = _ := hd 20 (by decide)
          refine wpOp_plain rfl rfl ?_
          obtain ⟨x0, x1, xf⟩ := BlkAt.c2 (hB.fr hC.1 (by unfold eqB; omega))
          obtain ⟨z0, z1, z2, z3, z4, z5, z6, z7, z8⟩ := (hseg.fr hC.1 (by unfold eqB; rw [add_block]; exact hlg)).c9
          go_wp2_with fail
          exact hK _ _ (Fr.refl _ _) hC rfl
        · rw [if_neg (by decide)]; intro kq
          intro a W K hC hd hK
          have d21 : _ = _ := hd 21 (by decide)
          refine wpOp_plain rfl rfl ?_
          obtain ⟨x0, x1, xf⟩ := BlkAt.c2 (hB.fr hC.1 (by unfold eqB; omega))
          obtain ⟨z0, z1, z2, z3, z4, z5, z6, z7, z8⟩ := (hseg.fr hC.1 (by unfold eqB; rw [add_block]; exact hlg)).c9
          go_wp2_with fail
          exact hK _ _ (Fr.refl _ _) hC rfl
        · rw [if_neg (by decide)]; intro kq
          exact calm_mv 1 rfl rfl (Or.inl rfl) (Fr.refl _) (by decide) fun v w hd => hd
        · rw [if_neg (by decide)]; intro kq
          exact calm_mv 0 rfl rfl (Or.inl rfl) (Fr.refl _) (by decide) fun v w hd => hd
        · rw [if_neg (by decide)]; intro kq
          intro a W K hC hd hK
          have d24 : _ = _ := hd 24 (by decide)
          refine wpOp_plain rfl rfl ?_
          go_wp2_with fail
          exact hK _ _ (Fr.refl _ _) hC rfl
        · rw [if_neg (by decide)]; intro kq
          intro a W K hC hd hK
          have d25 : _ = _ := hd 25 (by decide)
          refine wpOp_plain rfl rfl ?_
          obtain ⟨x0, x1, xf⟩ := BlkAt.c2 (hB.fr hC.1 (by unfold eqB; omega))
          obtain ⟨z0, z1, z2, z3, z4, z5, z6, z7, z8⟩ := (hseg.fr hC.1 (by unfold eqB; rw [add_block]; exact hlg)).c9
          go_wp2_with fail
          exact hK _ _ (Fr.refl _ _) hC rfl
        · rw [if_neg (by decide)]; intro kq
          intro a W K hC hd hK
          have d26 : _ = _ := hd 26 (by decide)
          refine wpOp_plain rfl rfl ?_
          obtain ⟨x0, x1, xf⟩ := BlkAt.c2 (hB.fr hC.1 (by unfold eqB; omega))
          obtain ⟨z0, z1, z2, z3, z4, z5, z6, z7, z8⟩ := (hseg.fr hC.1 (by unfold eqB; rw [add_block]; exact hlg)).c9
          go_wp2_with fail
          exact hK _ _ (Fr.refl _ _) hC rfl
        · rw [if_neg (by decide)]; intro kq
          intro a W K hC hd hK
          have d23 : _ = _ := hd 23 (by decide)
          have d27 : _ = _ := hd 27 (by decide)
          refine wpOp_plain rfl rfl ?_
          go_wp2_with fail
          exact hK _ _ (Fr.refl _ _) hC rfl
        · rw [if_neg (by decide)]; intro kq
          intro a W K hC hd hK
          have d28 : _ = _ := hd 28 (by decide)
          refine wpOp_plain rfl rfl ?_
          go_wp2_with fail
          exact hK _ _ (Fr.refl _ _) hC rfl
        · rw [if_neg (by decide)]; intro kq
          intro a W K hC hd hK
          have d22 : _ = _ := hd 22 (by decide)
          have d29 : _ = _ := hd 29 (by decide)
          refine wpOp_plain rfl rfl ?_
          obtain ⟨x0, x1, xf⟩ := BlkAt.c2 (hB.fr hC.1 (by unfold eqB; omega))
          obtain ⟨z0, z1, z2, z3, z4, z5, z6, z7, z8⟩ := (hseg.fr hC.1 (by unfold eqB; rw [add_block]; exact hlg)).c9
          go_wp2_with fail
          exact hK _ _ (Fr.refl _ _) hC rfl
        · rw [if_neg (by decide)]; intro kq
          intro a W K hC hd hK
          have d30 : _ = _ := hd 30 (by decide)
          refine wpOp_plain rfl rfl ?_
          obtain ⟨x0, x1, xf⟩ := BlkAt.c2 (hB.fr hC.1 (by unfold eqB; omega))
          obtain ⟨z0, z1, z2, z3, z4, z5, z6, z7, z8⟩ := (hseg.fr hC.1 (by unfold eqB; rw [add_block]; exact hlg)).c9
          go_wp2_with fail
          exact hK _ _ (Fr.refl _ _) hC rfl
        · rw [if_pos (by decide)]
          intro a W K hC hd hK
          replace hC : (fun q W => Fr (eqB w.heap.size) w1 W ∧ AtC w.heap.size #[.int .u64 0, .int .u64 0, .int .u8 0, .int .u64 0, .int .u8 0, .string ⟨#[]⟩, .string ⟨#[]⟩, .int .u8 0, .int .u8 0] #[.int .u64 op, .int .u64 view, .int .u8 cl, .int .u64 num, .int .u8 k, .string oa, .string ob, .int .u8 on, .int .u8 or] q W) 0 W := hC
          have d4 : a.tmps[4]?.getD undef = .pointer (some ⟨w.heap.size, 0, none⟩) := hd 4 (by decide)
          have d31 : _ = _ := hd 31 (by decide)
          refine wpOp_plain rfl rfl ?_
          obtain ⟨x0, x1, xf⟩ := BlkAt.c2 (hB.fr hC.1 (by unfold eqB; omega))
          obtain ⟨z0, z1, z2, z3, z4, z5, z6, z7, z8⟩ := (hseg.fr hC.1 (by unfold eqB; rw [add_block]; exact hlg)).c9
          obtain ⟨y0, y1, y2, y3, y4, y5, y6, y7, y8, yf⟩ := BlkAt.c9 hC.2
          have fs := hfs W (.int .u64 op) (.int .u64 view) (.int .u8 cl) (.int .u64 num) (.int .u8 k) (.string oa) (.string ob) (.int .u8 on) (.int .u8 or)
          have hset := BlkAt.set9 hC.2 (.int .u64 op) (.int .u64 view) (.int .u8 cl) (.int .u64 num) (.int .u8 k) (.string oa) (.string ob) (.int .u8 on) (.int .u8 or)
          go_wp2_with fail
          exact hK undef _ fs ⟨hC.1.then' fs, hset⟩ trivial
        · rw [if_neg (by decide)]; intro kq
          intro a W K hC hd hK
          refine wpOp_plain rfl rfl ?_
          go_wp2_with fail
          exact hK _ _ (Fr.refl _ _) hC rfl
      · intro vs w8 fw8 cw8 hV
        have v19 : vs 0 = _ := hV 0 _ _ rfl rfl (by decide)
        have v20 : vs 1 = _ := hV 1 _ _ rfl rfl (by decide)
        have v21 : vs 2 = _ := hV 2 _ _ rfl rfl (by decide)
        have v22 : vs 3 = _ := hV 3 _ _ rfl rfl (by decide)
        have v23 : vs 4 = _ := hV 4 _ _ rfl rfl (by decide)
        have v24 : vs 5 = _ := hV 5 _ _ rfl rfl (by decide)
        have v25 : vs 6 = _ := hV 6 _ _ rfl rfl (by decide)
        have v26 : vs 7 = _ := hV 7 _ _ rfl rfl (by decide)
        have v27 : vs 8 = _ := hV 8 _ _ rfl rfl (by decide)
        have v28 : vs 9 = _ := hV 9 _ _ rfl rfl (by decide)
        have v29 : vs 10 = _ := hV 10 _ _ rfl rfl (by decide)
        have v30 : vs 11 = _ := hV 11 _ _ rfl rfl (by decide)
        have v31 : vs 12 = _ := hV 12 _ _ rfl rfl (by decide)
        have v5 : vs 14 = _ := hV 14 _ _ rfl rfl (by decide)
        clear hV
        simp only [putL, Act.put, Nat.reduceAdd, List.setIfInBounds_toArray, List.set_cons_zero, List.set_cons_succ, v19, v20, v21, v22, v23, v24, v25, v26, v27, v28, v29, v30, v31, v5]
        obtain ⟨y0, y1, y2, y3, y4, y5, y6, y7, y8, yf⟩ := BlkAt.c9 cw8.2
        have FF : Fr noB w w8 := (f0.then' f1).trans fw8 (fun i hi h => by unfold eqB at h; omega)
        clear cw8
        go_wp2_with fail
        have hr := hr.out
        exact bodyPost_ret (v := .tuple #[.agg #[.int .u64 op, .int .u64 view, .int .u8 cl, .int .u64 num, .int .u8 k, .string oa, .string ob, .int .u8 on, .int .u8 or], .bool true]) (by simp [results, hr, go_sem, y0, y1, y2, y3, y4, y5, y6, y7, y8]) rfl (by rw [HV.out]; exact ⟨rfl, FF⟩)

/-! ### the reference's Find -/
def findV (b : Nat) (es : List EnV) (k : Nat) : Int := if k ≤ b ∨ lastL b es < k then -1 else (k - b - 1 : Nat)
set_option maxRecDepth 100000 in
set_option maxHeartbeats 1600000 in
theorem findR_calls (w : World) (b kk n c : Nat) (A : Option Addr) (es : List EnV) (h : RefA w A n c es) (hG : GoodL b es) :
    Calls Tryd.prog 47 #[.agg #[.int .u64 b, .slice A n c], .int .u64 kk] w (IntPost w (findV b es kk)) := by
  have HN := h.len
  have hrow := h.row
  have hw16 := hG.few
  rw [HN.out] at hw16
  have hop := hG.op
  have f0 : Fr noB w (w.alloc (.cells #[.int .u64 b, .slice A n c] 54)) := (Fr.refl noB w).alloc _
  have hb0 : BlkAt (w.alloc (.cells #[.int .u64 b, .slice A n c] 54)) w.heap.size 54 #[.int .u64 b, .slice A n c] := BlkAt.new _ _ _
  have HV : Hid (findV b es kk = if kk ≤ b ∨ b + n < kk then (-1 : Int) else ((kk - b - 1 : Nat) : Int)) := by unfold Hid findV lastL; rw [HN.out]
  generalize findV b es kk = res at *
  clear h hG
  go_enter Tryd.func47, Tryd.ntmps47
  go_upto_region 1 with fail
  generalize (w.alloc (.cells #[.int .u64 b, .slice A n c] 54)) = wa at *
  obtain ⟨x0, x1, xf⟩ := BlkAt.c2 hb0
  go_wp2_with fail
  clear x0 x1 xf hb0
  go_loopw [10] (fun i wr => ∃ j : Nat, j ≤ n ∧ i = .int .i64 j ∧ (∀ t e, t < j → es[t]? = some e → e.op ≠ kk) ∧ Fr noB w wr) (fun i _ => n - (intOf i).toNat)
  case atStart => exact ⟨0, Nat.zero_le _, rfl, fun t e h => by omega, f0⟩
  case round =>
    obtain ⟨j, hj, rfl, hne, hf⟩ := hrel
    by_cases hjn : j < n
    · obtain ⟨e, he⟩ : ∃ e, es[j]? = some e := ⟨_, List.getElem?_eq_getElem (by rw [HN.out]; exact hjn)⟩
      obtain ⟨ad, rfl⟩ := hrow.some_flat (by simp [EnV.C]) he
      obtain ⟨z0, z1, z2, z3, z4, z5, z6, z7, z8⟩ := ((hrow.seg 9 (fun _ => rfl) he).fr hf id).c9
      have HO := hid (hop j e he)
      have HE : Hid (es[j]? = some e) := he
      have hfa : Fr noB wr (wr.alloc (.cells e.C.toArray 90)) := (Fr.refl noB wr).alloc _
      have hba : BlkAt (wr.alloc (.cells e.C.toArray 90)) wr.heap.size 90 e.C.toArray := BlkAt.new _ _ _
      have hF := hf.then' hfa
      obtain ⟨op, view, cl, num, ⟨k, oa, ob, on, or⟩⟩ := e
      unfold EnV.C at hfa hba hF
      simp only [] at *
      clear he
      go_upto_region 4 with fail
      generalize hwb : (wr.alloc (.cells #[.int .u64 op, .int .u64 view, .int .u8 cl, .int .u64 num, .int .u8 k, .string oa, .string ob, .int .u8 on, .int .u8 or] 90)) = wb at *
      clear hwb z0 z1 z2 z3 z4 z5 z6 z7 z8
      obtain ⟨z0, z1, z2, z3, z4, z5, z6, z7, z8, zf⟩ := BlkAt.c9 hba
      by_cases hk : op = kk
      · have HI : Hid (res = (j : Int)) := by have := HO.out; unfold Hid; rw [HV.out, if_neg (by omega)]; omega
        have t1 : ((op : Int) == kk) = true := by rw [beq_iff_eq]; omega
        clear hk HV
        go_wp2_with fail
        go_ret
        exact IntPost.mk' HI.out.symm hF
      · have t1 : ((op : Int) == kk) = false := by rw [beq_eq_false_iff_ne]; omega
        go_wp2_with fail
        go_roundw
        case rel =>
          refine ⟨j + 1, by omega, by go_num, fun t e ht hte => ?_, hF⟩
          by_cases htj : t = j
          · subst htj; rw [HE.out] at hte; cases hte; exact hk
          · exact hne t e (by omega) hte
        case measure => simp [intOf]; omega
    · have : j = n := by omega
      subst this
      have HI : Hid (res = (-1 : Int)) := by
        unfold Hid; rw [HV.out]
        by_cases hc : kk ≤ b ∨ b + j < kk
        · rw [if_pos hc]
        · exfalso
          obtain ⟨e, he⟩ : ∃ e, es[kk - b - 1]? = some e := ⟨_, List.getElem?_eq_getElem (by rw [HN.out]; omega)⟩
          exact hne _ e (by omega) he (by have := hop _ e he; omega)
      clear hne HV
      go_wp2_with fail
      go_ret
      exact IntPost.mk' HI.out.symm hf
end Go.Proofs.YtcaihinenfnekaaDoor
/- slices.ContainsFunc over entries, with the closures of Agree and Find. -/
namespace Go.Proofs.YtcaihinenfnekaaDoor
open Go.RowKit
set_option maxRecDepth 100000 in
set_option maxHeartbeats 1600000 in
theorem idxAg_calls (w : World) (A : Option Addr) (n c : Nat) (es : List EnV) (hrow : RowAt w A (es.flatMap EnV.C)) (HN : Hid (es.length = n)) (hn : n ≤ 9223372036854775807) (u0 : Value) (pred : EnV → Bool)
    (hf : ∀ W, Fr noB w W → ∀ e ∈ es, Calls Tryd.prog 78 #[e.v, u0] W (BoolPost W (pred e))) :
    Calls Tryd.prog 116 #[.slice A n c, .func (.func 78) #[] #[u0]] w (fun ed w' => ∃ i : Int, ed = .returned (.int .i64 i) ∧ decide (0 ≤ i) = es.any pred ∧ Fr noB w w') := by
  go_enter Tryd.func116, Tryd.ntmps116
  go_wp2_with fail
  go_loopw [8] (fun i wr => ∃ j : Nat, j ≤ n ∧ i = .int .i64 j ∧ (es.take j).any pred = false ∧ Fr noB w wr) (fun i _ => n - (intOf i).toNat)
  case atStart => exact ⟨0, Nat.zero_le _, rfl, by simp, Fr.refl _ _⟩
  case round =>
    obtain ⟨j, hj, rfl, hne, hfr⟩ := hrel
    by_cases hjn : j < n
    · obtain ⟨e, he⟩ : ∃ e, es[j]? = some e := ⟨_, List.getElem?_eq_getElem (by rw [HN.out]; exact hjn)⟩
      obtain ⟨ad, rfl⟩ := hrow.some_flat (by simp [EnV.C]) he
      obtain ⟨z0, z1, z2, z3, z4, z5, z6, z7, z8⟩ := ((hrow.seg 9 (fun _ => rfl) he).fr hfr id).c9
      have hcl := hf wr hfr e (List.mem_of_getElem? he)
      have HT : Hid ((es.take (j + 1)).any pred = pred e) := by unfold Hid; rw [take_snoc' he, List.any_append, hne]; simp
      have HF : Hid (pred e = true → es.any pred = true) := fun h => List.any_eq_true.2 ⟨e, List.mem_of_getElem? he, h⟩
      generalize pred e = v at *
      obtain ⟨op, view, cl, num, ⟨k, oa, ob, on, or⟩⟩ := e
      unfold EnV.v at hcl
      simp only [] at hcl
      clear he hf
      go_wp2_with fail
      refine hcl.mono ?_
      rintro ed w2 ⟨rfl, f2⟩
      have F2 := hfr.then' f2
      clear hcl z0 z1 z2 z3 z4 z5 z6 z7 z8
      cases v with
      | true =>
        go_wp2_with fail
        go_ret
        exact ⟨_, rfl, by rw [HF.out (by trivial)]; exact decide_eq_true (by omega), F2⟩
      | false =>
        go_wp2_with fail
        go_roundw
        case rel => exact ⟨j + 1, by omega, by go_num, HT.out, F2⟩
        case measure => simp [intOf]; omega
    · have : j = n := by omega
      subst this
      rw [List.take_of_length_le (by rw [HN.out]; exact Nat.le_refl _)] at hne
      clear hf
      go_wp2_with fail
      go_ret
      exact ⟨_, rfl, by rw [hne]; rfl, hfr⟩
set_option maxRecDepth 100000 in
theorem containsAg_calls (w : World) (A : Option Addr) (n c : Nat) (es : List EnV) (hrow : RowAt w A (es.flatMap EnV.C)) (HN : Hid (es.length = n)) (hn : n ≤ 9223372036854775807) (u0 : Value) (pred : EnV → Bool)
    (hf : ∀ W, Fr noB w W → ∀ e ∈ es, Calls Tryd.prog 78 #[e.v, u0] W (BoolPost W (pred e))) :
    Calls Tryd.prog 77 #[.slice A n c, .func (.func 78) #[] #[u0]] w (BoolPost w (es.any pred)) := by
  have hi := idxAg_calls w A n c es hrow HN hn u0 pred hf
  clear hf hrow
  go_enter Tryd.func77, Tryd.ntmps77
  go_wp2_with fail
  refine hi.mono ?_
  rintro ed w2 ⟨i, rfl, hv, f2⟩
  have HV := hid hv
  clear hv hi
  go_wp2_with fail
  go_ret
  exact BoolPost.mk' HV.out f2
set_option maxRecDepth 100000 in
set_option maxHeartbeats 1600000 in
theorem idxFi_calls (w : World) (A : Option Addr) (n c : Nat) (es : List EnV) (hrow : RowAt w A (es.flatMap EnV.C)) (HN : Hid (es.length = n)) (hn : n ≤ 9223372036854775807) (u0 u1 : Value) (pred : EnV → Bool)
    (hf : ∀ W, Fr noB w W → ∀ e ∈ es, Calls Tryd.prog 94 #[e.v, u0, u1] W (BoolPost W (pred e))) :
    Calls Tryd.prog 116 #[.slice A n c, .func (.func 94) #[] #[u0, u1]] w (fun ed w' => ∃ i : Int, ed = .returned (.int .i64 i) ∧ decide (0 ≤ i) = es.any pred ∧ Fr noB w w') := by
  go_enter Tryd.func116, Tryd.ntmps116
  go_wp2_with fail
  go_loopw [8] (fun i wr => ∃ j : Nat, j ≤ n ∧ i = .int .i64 j ∧ (es.take j).any pred = false ∧ Fr noB w wr) (fun i _ => n - (intOf i).toNat)
  case atStart => exact ⟨0, Nat.zero_le _, rfl, by simp, Fr.refl _ _⟩
  case round =>
    obtain ⟨j, hj, rfl, hne, hfr⟩ := hrel
    by_cases hjn : j < n
    · obtain ⟨e, he⟩ : ∃ e, es[j]? = some e := ⟨_, List.getElem?_eq_getElem (by rw [HN.out]; exact hjn)⟩
      obtain ⟨ad, rfl⟩ := hrow.some_flat (by simp [EnV.C]) he
      obtain ⟨z0, z1, z2, z3, z4, z5, z6, z7, z8⟩ := ((hrow.seg 9 (fun _ => rfl) he).fr hfr id).c9
      have hcl := hf wr hfr e (List.mem_of_getElem? he)
      have HT : Hid ((es.take (j + 1)).any pred = pred e) := by unfold Hid; rw [take_snoc' he, List.any_append, hne]; simp
      have HF : Hid (pred e = true → es.any pred = true) := fun h => List.any_eq_true.2 ⟨e, List.mem_of_getElem? he, h⟩
      generalize pred e = v at *
      obtain ⟨op, view, cl, num, ⟨k, oa, ob, on, or⟩⟩ := e
      unfold EnV.v at hcl
      simp only [] at hcl
      clear he hf
      go_wp2_with fail
      refine hcl.mono ?_
      rintro ed w2 ⟨rfl, f2⟩
      have F2 := hfr.then' f2
      clear hcl z0 z1 z2 z3 z4 z5 z6 z7 z8
      cases v with
      | true =>
        go_wp2_with fail
        go_ret
        exact ⟨_, rfl, by rw [HF.out (by trivial)]; exact decide_eq_true (by omega), F2⟩
      | false =>
        go_wp2_with fail
        go_roundw
        case rel => exact ⟨j + 1, by omega, by go_num, HT.out, F2⟩
        case measure => simp [intOf]; omega
    · have : j = n := by omega
      subst this
      rw [List.take_of_length_le (by rw [HN.out]; exact Nat.le_refl _)] at hne
      clear hf
      go_wp2_with fail
      go_ret
      exact ⟨_, rfl, by rw [hne]; rfl, hfr⟩
set_option maxRecDepth 100000 in
theorem containsFi_calls (w : World) (A : Option Addr) (n c : Nat) (es : List EnV) (hrow : RowAt w A (es.flatMap EnV.C)) (HN : Hid (es.length = n)) (hn : n ≤ 9223372036854775807) (u0 u1 : Value) (pred : EnV → Bool)
    (hf : ∀ W, Fr noB w W → ∀ e ∈ es, Calls Tryd.prog 94 #[e.v, u0, u1] W (BoolPost W (pred e))) :
    Calls Tryd.prog 77 #[.slice A n c, .func (.func 94) #[] #[u0, u1]] w (BoolPost w (es.any pred)) := by
  have hi := idxFi_calls w A n c es hrow HN hn u0 u1 pred hf
  clear hf hrow
  go_enter Tryd.func77, Tryd.ntmps77
  go_wp2_with fail
  refine hi.mono ?_
  rintro ed w2 ⟨i, rfl, hv, f2⟩
  have HV := hid hv
  clear hv hi
  go_wp2_with fail
  go_ret
  exact BoolPost.mk' HV.out f2

/-! ### Agree -/
open Classical in
noncomputable def clashB (b : Nat) (es : List EnV) (e : EnV) : Bool := match atV b es e.op with
  | none => false
  | some x => !decide (x = e)
open Classical in
set_option maxRecDepth 100000 in
set_option maxHeartbeats 1600000 in
theorem agree1_calls (w : World) (U : Nat → Prop) (p q b : Nat) (es : List EnV) (e : EnV) (h : LogA w U p b es) (hG : GoodL b es) (hw : e.wf) (hq : w.cell? ⟨q, 0, none⟩ = some (.pointer (some ⟨p, 0, none⟩))) :
    Calls Tryd.prog 78 #[e.v, .pointer (some ⟨q, 0, none⟩)] w (BoolPost w (clashB b es e)) := by
  have hat := fun W h => atL_calls W U p b e.op es h hG hw.op
  have HV : Hid (clashB b es e = match atV b es e.op with | none => false | some x => !decide (x = e)) := rfl
  have HNQ : Hid (∀ W x, (binOp .neq 42 (EnV.v x) (EnV.v e)).run Tryd.prog W = .ok (.bool (!@decide (x = e) (Classical.propDecidable _))) W) := fun W x => enNeq W x e
  have HM : Hid (Tryd.prog.eqGuardType Tryd.prog.depth 42 = false) := Tryd.gE
  have f0 : Fr noB w (w.alloc (.cells e.C.toArray 42)) := (Fr.refl noB w).alloc _
  have hb0 : BlkAt (w.alloc (.cells e.C.toArray 42)) w.heap.size 42 e.C.toArray := BlkAt.new _ _ _
  replace h := h.fr0 f0
  replace hq := f0.cell hq id
  generalize clashB b es e = res at *
  obtain ⟨op, view, cl, num, ⟨k, oa, ob, on, or⟩⟩ := e
  unfold EnV.C at f0 hb0 h hq
  unfold EnV.v at HNQ ⊢
  simp only [] at *
  generalize atV b es op = o at *
  go_enter Tryd.func78, Tryd.ntmps78
  go_upto_region 1 with fail
  generalize (w.alloc (.cells #[.int .u64 op, .int .u64 view, .int .u8 cl, .int .u64 num, .int .u8 k, .string oa, .string ob, .int .u8 on, .int .u8 or] 42)) = wa at *
  obtain ⟨x0, x1, x2, x3, x4, x5, x6, x7, x8, xf⟩ := BlkAt.c9 hb0
  go_wp2_with fail
  refine (hat wa h).mono ?_
  rintro ed w1 ⟨rfl, f1⟩
  have F1 := f0.then' f1
  clear x0 x1 x2 x3 x4 x5 x6 x7 x8 xf
  replace hb0 := hb0.fr f1 id
  cases o with
  | none =>
    have hz : (Option.getD (none : Option EnV) zeroE).v = zeroE.v := rfl
    clear hat h hb0 HNQ f0 f1 hq
    have F2 := fun o => F1.alloc o
    rw [hz, zeroE_v]
    go_wp2_with fail
    go_ret
    exact BoolPost.mk' HV.out.symm (F2 _)
  | some y =>
    have hz : (Option.getD (some y) zeroE).v = y.v := rfl
    rw [hz]
    replace HNQ := hid fun W => HNQ.out W y
    obtain ⟨v, hv⟩ : ∃ v, (!@decide (y = (⟨op, view, cl, num, ⟨k, oa, ob, on, or⟩⟩ : EnV)) (Classical.propDecidable _)) = v := ⟨_, rfl⟩
    simp only [hv] at HNQ HV
    clear hv
    obtain ⟨op1, view1, cl1, num1, ⟨k1, oa1, ob1, on1, or1⟩⟩ := y
    unfold EnV.v
    simp only [] at HNQ HV ⊢
    have f2 := (Fr.refl noB w1).alloc (.cells #[.int .u64 op1, .int .u64 view1, .int .u8 cl1, .int .u64 num1, .int .u8 k1, .string oa1, .string ob1, .int .u8 on1, .int .u8 or1] 42)
    have hb2 := BlkAt.new w1 #[.int .u64 op1, .int .u64 view1, .int .u8 cl1, .int .u64 num1, .int .u8 k1, .string oa1, .string ob1, .int .u8 on1, .int .u8 or1] 42
    replace hb0 := hb0.fr f2 id
    have F2 := F1.then' f2
    clear hat h f0 f1 f2 F1 hq
    go_upto_region 2 with fail
    generalize (w1.alloc (.cells #[.int .u64 op1, .int .u64 view1, .int .u8 cl1, .int .u64 num1, .int .u8 k1, .string oa1, .string ob1, .int .u8 on1, .int .u8 or1] 42)) = w2 at *
    obtain ⟨x0, x1, x2, x3, x4, x5, x6, x7, x8, xf⟩ := BlkAt.c9 hb0
    obtain ⟨y0, y1, y2, y3, y4, y5, y6, y7, y8, yf⟩ := BlkAt.c9 hb2
    have hnq := HNQ.out
    have hm := HM.out
    go_wp2_with fail
    go_ret
    exact BoolPost.mk' HV.out.symm F2
set_option maxRecDepth 100000 in
theorem agreeL_calls (w : World) (U : Nat → Prop) (p b n c : Nat) (A : Option Addr) (es L : List EnV) (h : LogA w U p b es) (hG : GoodL b es) (hrow : RowAt w A (L.flatMap EnV.C)) (HN : Hid (L.length = n)) (hn : n ≤ 9223372036854775807) (hwf : ∀ e ∈ L, e.wf) :
    Calls Tryd.prog 37 #[.pointer (some ⟨p, 0, none⟩), .slice A n c] w (BoolPost w (!L.any (clashB b es))) := by
  have f0 : Fr noB w (w.alloc (.cells #[.pointer (some ⟨p, 0, none⟩)] 34)) := (Fr.refl noB w).alloc _
  have hb0 : BlkAt (w.alloc (.cells #[.pointer (some ⟨p, 0, none⟩)] 34)) w.heap.size 34 #[.pointer (some ⟨p, 0, none⟩)] := BlkAt.new _ _ _
  have hcon := containsAg_calls (w.alloc (.cells #[.pointer (some ⟨p, 0, none⟩)] 34)) A n c L (hrow.fr0 f0) HN hn (.pointer (some ⟨w.heap.size, 0, none⟩)) (clashB b es) (fun W fW e he => agree1_calls W U p w.heap.size b es e ((h.fr0 f0).fr0 fW) hG (hwf e he) ((hb0.fr fW id).cell rfl))
  generalize L.any (clashB b es) = v at *
  have hmf : ∀ (fn : Fn) (first cap : Array Value) (w : World), (Instr.makeFunc fn first cap).run Tryd.prog w = .ok (.func fn first cap) w := fun _ _ _ _ => rfl
  clear h hrow hb0
  go_enter Tryd.func37, Tryd.ntmps37
  go_upto_region 1 with fail
  generalize (w.alloc (.cells #[.pointer (some ⟨p, 0, none⟩)] 34)) = wa at *
  go_wp2_with fail
  refine hcon.mono ?_
  rintro ed w2 ⟨rfl, f2⟩
  go_wp2_with fail
  go_ret
  exact BoolPost.mk' rfl (f0.then' f2)
end Go.Proofs.YtcaihinenfnekaaDoor
/- log.Of, the reference's Of; interrexlaw19.Refs. -/
namespace Go.Proofs.YtcaihinenfnekaaDoor
open Go.RowKit

noncomputable def ofG (b : Nat) : List EnV → List EnV → List EnV × Nat
  | es, [] => (es, 0)
  | es, e :: r => if (appL b es e).2 ≠ 0 then ([], (appL b es e).2) else ofG b (appL b es e).1 r
noncomputable def ofL (b : Nat) (L : List EnV) : List EnV × Nat := if 1099511627776 < b then ([], 17) else ofG b [] L
theorem appL_ok {b : Nat} {es : List EnV} {e : EnV} (h : (appL b es e).2 = 0) : (appL b es e).1 = es ++ [e] := by
  unfold appL at *
  split at h
  · rename_i h1; exact absurd h h1
  · rename_i h1
    rw [if_neg h1]
    split at h
    · cases h
    · rename_i h2
      rw [if_neg h2]
      split at h
      · cases h
      · rename_i h3; rw [if_neg h3]
theorem ofG_ok {b : Nat} : ∀ {r es x : List EnV}, ofG b es r = (x, 0) → GoodL b es → (∀ e ∈ r, e.wf) → x = es ++ r ∧ GoodL b x
  | [], es, x, h, hG, _ => by
    simp only [ofG, Prod.mk.injEq, and_true] at h
    subst h
    exact ⟨by simp, hG⟩
  | e :: r, es, x, h, hG, hw => by
    simp only [ofG] at h
    split at h
    · rename_i h1; simp only [Prod.mk.injEq] at h; exact absurd h.2 h1
    · rename_i h1
      simp only [ne_eq, Decidable.not_not] at h1
      have hG1 := hG.app (e := e) (hw e (by simp))
      have ih := ofG_ok h hG1 (fun y hy => hw y (by simp [hy]))
      rw [appL_ok h1] at ih
      exact ⟨by rw [ih.1]; simp, ih.2⟩
theorem ofL_ok {b : Nat} {L x : List EnV} (h : ofL b L = (x, 0)) (hw : ∀ e ∈ L, e.wf) : x = L ∧ GoodL b L := by
  unfold ofL at h
  split at h
  · cases h
  · have := ofG_ok h (GoodL.new (by omega)) hw
    simp only [List.nil_append] at this
    exact ⟨this.1, this.1 ▸ this.2⟩
theorem drop_get {α : Type} {l : List α} {j : Nat} {e : α} (h : l[j]? = some e) : l.drop j = e :: l.drop (j + 1) := by
  obtain ⟨hj, rfl⟩ := List.getElem?_eq_some_iff.1 h
  exact List.drop_eq_getElem_cons hj
theorem ofG_nil (b : Nat) (es : List EnV) : ofG b es [] = (es, 0) := rfl
theorem ofG_step {b : Nat} {es L : List EnV} {j : Nat} {e : EnV} (h : L[j]? = some e) : ofG b es (L.drop j) = if (appL b es e).2 ≠ 0 then ([], (appL b es e).2) else ofG b (appL b es e).1 (L.drop (j + 1)) := by
  rw [drop_get h]; rfl
def OfLPost (w : World) (b : Nat) (q : List EnV × Nat) (ed : Ending) (w' : World) : Prop :=
  Fr noB w w' ∧ if q.2 = 0 then ∃ p, ed = .returned (.tuple #[.pointer (some ⟨p, 0, none⟩), .int .i64 0]) ∧ LogA w' (upB w.heap.size) p b q.1 else ed = .returned (.tuple #[.pointer none, .int .i64 (q.2 : Nat)])
theorem OfLPost.ok {w w' : World} {b p : Nat} {q : List EnV × Nat} (h0 : q.2 = 0) (f : Fr noB w w') (h : LogA w' (upB w.heap.size) p b q.1) : OfLPost w b q (.returned (.tuple #[.pointer (some ⟨p, 0, none⟩), .int .i64 0])) w' := ⟨f, by rw [if_pos h0]; exact ⟨p, rfl, h⟩⟩
theorem OfLPost.no {w w' : World} {b k : Nat} {q : List EnV × Nat} (h0 : q.2 = k) (hk : k ≠ 0) (f : Fr noB w w') : OfLPost w b q (.returned (.tuple #[.pointer none, .int .i64 k])) w' := ⟨f, by subst h0; rw [if_neg hk]⟩
set_option maxRecDepth 100000 in
set_option maxHeartbeats 1600000 in
theorem ofL_calls (w : World) (b n c : Nat) (A : Option Addr) (L : List EnV) (ht : SignsAt w) (hrow : RowAt w A (L.flatMap EnV.C)) (HN : Hid (L.length = n)) (hn : n ≤ 9223372036854775807) (hwf : ∀ e ∈ L, e.wf) (hsz : ∀ e ∈ L, e.o.a.size ≤ 1000000000000 ∧ e.o.b.size ≤ 1000000000000) :
    Calls Tryd.prog 34 #[.int .u64 b, .slice A n c] w (OfLPost w b (ofL b L)) := by
  have HV : Hid (ofL b L = if 1099511627776 < b then ([], 17) else ofG b [] L) := rfl
  generalize ofL b L = res at *
  by_cases hb : 1099511627776 < b
  · rw [if_pos hb] at HV
    have t1 : decide ((1099511627776 : Int) < b) = true := decide_eq_true (by omega)
    clear hb hrow
    go_enter Tryd.func34, Tryd.ntmps34
    go_wp2_with fail
    go_ret2
    exact OfLPost.no (k := 17) (by rw [HV.out]) (by decide) (Fr.refl _ _)
  · rw [if_neg hb] at HV
    have t1 : decide ((1099511627776 : Int) < b) = false := decide_eq_false (by omega)
    have hnew := newL_calls w b
    rw [show min b 1099511627776 = b from by omega] at hnew
    have hG0 : GoodL b [] := GoodL.new (by omega)
    clear hb
    go_enter Tryd.func34, Tryd.ntmps34
    go_wp2_with fail
    refine hnew.mono ?_
    rintro ed w1 ⟨rfl, hL1, f1⟩
    obtain ⟨p, hp⟩ : ∃ p, w.heap.size = p := ⟨_, rfl⟩
    rw [hp] at hL1 ⊢
    clear hnew
    go_wp2_with fail
    go_loopw [16] (fun i wr => ∃ (j : Nat) (es : List EnV), j ≤ n ∧ i = .int .i64 j ∧ res = ofG b es (L.drop j) ∧ LogA wr (upB p) p b es ∧ GoodL b es ∧ Fr noB w wr) (fun i _ => n - (intOf i).toNat)
    case atStart => exact ⟨0, [], Nat.zero_le _, rfl, by rw [HV.out]; rfl, hL1, hG0, f1⟩
    case round =>
      clear hL1 hG0 f1 HV
      obtain ⟨j, es, hj, rfl, hres, hL, hG, hf⟩ := hrel
      by_cases hjn : j < n
      · obtain ⟨e, he⟩ : ∃ e, L[j]? = some e := ⟨_, List.getElem?_eq_getElem (by rw [HN.out]; exact hjn)⟩
        obtain ⟨ad, rfl⟩ := hrow.some_flat (by simp [EnV.C]) he
        obtain ⟨z0, z1, z2, z3, z4, z5, z6, z7, z8⟩ := ((hrow.seg 9 (fun _ => rfl) he).fr hf id).c9
        have hmem := List.mem_of_getElem? he
        have fa : Fr noB wr (wr.alloc (.cells e.C.toArray 42)) := (Fr.refl noB wr).alloc _
        have hba : BlkAt (wr.alloc (.cells e.C.toArray 42)) wr.heap.size 42 e.C.toArray := BlkAt.new _ _ _
        have hF := hf.then' fa
        have hap := appL_calls (wr.alloc (.cells e.C.toArray 42)) (upB p) p b es e (ht.fr0 hF) (hL.fr0 fa) (fun k hk => by have := hF.size; unfold upB; omega) hG (hwf e hmem) (hsz e hmem).1 (hsz e hmem).2
        have HR := hid (hres.trans (ofG_step he))
        have hG1 := hG.app (hwf e hmem)
        generalize appL b es e = ap at *
        obtain ⟨es1, r1⟩ := ap
        obtain ⟨op, view, cl, num, ⟨k, oa, ob, on, or⟩⟩ := e
        unfold EnV.C at fa hba hF hap
        unfold EnV.v at hap
        simp only [] at *
        clear he hres hmem hL hf
        go_upto_region 7 with fail
        generalize hwa : (wr.alloc (.cells #[.int .u64 op, .int .u64 view, .int .u8 cl, .int .u64 num, .int .u8 k, .string oa, .string ob, .int .u8 on, .int .u8 or] 42)) = wa at *
        clear hwa z0 z1 z2 z3 z4 z5 z6 z7 z8 fa
        obtain ⟨z0, z1, z2, z3, z4, z5, z6, z7, z8, zf⟩ := BlkAt.c9 hba
        go_wp2_with fail
        refine hap.mono ?_
        rintro ed w3 ⟨rfl, hL3, f3⟩
        have F3 : Fr noB w w3 := hF.trans f3 (fun i hi h => by unfold upB at h; omega)
        clear hap f3 hF z0 z1 z2 z3 z4 z5 z6 z7 z8 zf hba
        by_cases hr : r1 = 0
        · rw [if_neg (by omega)] at HR
          subst hr
          go_wp2_with fail
          go_roundw
          case rel => exact ⟨j + 1, es1, by omega, by go_num, HR.out, hL3, hG1, F3⟩
          case measure => simp [intOf]; omega
        · rw [if_pos hr] at HR
          have t2 : ((r1 : Int) != 0) = true := by rw [bne_iff_ne]; omega
          go_wp2_with fail
          go_ret2
          exact OfLPost.no (k := r1) (by rw [HR.out]) hr F3
      · have : j = n := by omega
        subst this
        have HR : Hid (res = (es, 0)) := by
          unfold Hid; rw [hres, List.drop_eq_nil_of_le (by rw [HN.out]; exact Nat.le_refl _)]; rfl
        clear hres hrow
        go_wp2_with fail
        go_ret2
        exact OfLPost.ok (by rw [HR.out]) hf (by rw [HR.out, hp]; exact hL)
/-! ### Refs -/
set_option maxRecDepth 100000 in
set_option maxHeartbeats 1600000 in
theorem refs_calls (w : World) (n c : Nat) (A : Option Addr) (L : List EnV) (hrow : RowAt w A (L.flatMap EnV.C)) (HN : Hid (L.length = n)) (hn : n ≤ 1000000) :
    Calls Tryd.prog 36 #[.slice A n c] w (NewR w L) := by
  go_enter Tryd.func36, Tryd.ntmps36
  go_wp2_with fail
  go_loopw [3, 8] (fun v i wr => ∃ j : Nat, j ≤ n ∧ i = .int .i64 j ∧ (∃ B d, v = .slice B j d ∧ wr.ownsRow w.heap.size 90 9 (.slice B j d) j ((L.take j).flatMap EnV.C)) ∧ Fr noB w wr) (fun _ i _ => n - (intOf i).toNat)
  case atStart => exact ⟨0, Nat.zero_le _, rfl, ⟨none, 0, rfl, World.ownsRow_nil _ _ _ _⟩, Fr.refl _ _⟩
  case round =>
    obtain ⟨j, hj, rfl, ⟨B, d, rfl, hO⟩, hf⟩ := hrel
    by_cases hjn : j < n
    · obtain ⟨e, he⟩ : ∃ e, L[j]? = some e := ⟨_, List.getElem?_eq_getElem (by rw [HN.out]; exact hjn)⟩
      obtain ⟨ad, rfl⟩ := hrow.some_flat (by simp [EnV.C]) he
      obtain ⟨z0, z1, z2, z3, z4, z5, z6, z7, z8⟩ := ((hrow.seg 9 (fun _ => rfl) he).fr hf id).c9
      have HT : Hid ((L.take (j + 1)).flatMap EnV.C = (L.take j).flatMap EnV.C ++ e.C) := by unfold Hid; rw [take_snoc' he, List.flatMap_append]; simp
      have hone : ∀ u ∈ e.C, u.oneCell' = true := by have := flatE_one [e]; simpa using this
      have hrf := fun W => ref19_calls W e
      have fa : Fr noB wr (wr.alloc (.cells e.C.toArray 42)) := (Fr.refl noB wr).alloc _
      have hba : BlkAt (wr.alloc (.cells e.C.toArray 42)) wr.heap.size 42 e.C.toArray := BlkAt.new _ _ _
      have hF := hf.then' fa
      have hO0 := own_fr hO fa (fun _ _ => id)
      obtain ⟨ys, hys⟩ : ∃ x, (L.take (j + 1)).flatMap EnV.C = x := ⟨_, rfl⟩
      rw [hys] at HT
      have HY := hid hys
      clear hys
      generalize (L.take j).flatMap EnV.C = xs at *
      obtain ⟨op, view, cl, num, ⟨k, oa, ob, on, or⟩⟩ := e
      unfold EnV.C at fa hba hF hone hO0
      unfold EnV.v at hrf
      simp only [] at *
      clear he hO hf
      go_upto_region 5 with fail
      generalize hwa : (wr.alloc (.cells #[.int .u64 op, .int .u64 view, .int .u8 cl, .int .u64 num, .int .u8 k, .string oa, .string ob, .int .u8 on, .int .u8 or] 42)) = wa at *
      clear hwa z0 z1 z2 z3 z4 z5 z6 z7 z8 fa
      obtain ⟨z0, z1, z2, z3, z4, z5, z6, z7, z8, zf⟩ := BlkAt.c9 hba
      go_wp2_with fail
      refine (hrf wa).mono ?_
      rintro ed w2 ⟨rfl, f2⟩
      have F2 := hF.then' f2
      have hO2 := own_fr hO0 f2 (fun _ _ => id)
      have hOa : (w2.alloc (.cells #[.int .u64 op, .int .u64 view, .int .u8 cl, .int .u64 num, .int .u8 k, .string oa, .string ob, .int .u8 on, .int .u8 or] 90)).ownsRow 0 90 9 (.slice B j d) j xs := own_mono (own_fr hO2 ((Fr.refl noB w2).alloc _) (fun _ _ => id)) (fun _ _ => Nat.zero_le _)
      have Fa : Fr noB w (w2.alloc (.cells #[.int .u64 op, .int .u64 view, .int .u8 cl, .int .u64 num, .int .u8 k, .string oa, .string ob, .int .u8 on, .int .u8 or] 90)) := F2.alloc _
      have hbase : ∀ g, (Value.slice B j d).ownBlock = some g → w.heap.size ≤ g := fun g hg => (hO2.lt g hg).1
      have hs2 := F2.size
      clear hrf f2 hO0 hO2 hF z0 z1 z2 z3 z4 z5 z6 z7 z8 zf hba F2
      go_wp2_with (at_builtin; refine wpList_app Tryd.appER rfl (.tmp 12) (.tmp 15) rfl _ j xs rfl hOa _ 1 1 [.int .u64 op, .int .u64 view, .int .u8 cl, .int .u64 num, .int .u8 k, .string oa, .string ob, .int .u8 on, .int .u8 or] rfl rfl (new_row _ _ _) hone (by simp) (by omega) (by omega) ?_)
      intro A' c' w3 hown3 hg hat
      have f3 : Fr noB w w3 := Fr.grown Fa hg (fun g hg => Or.inr (hbase g hg))
      have hO3 : w3.ownsRow w.heap.size 90 9 (.slice A' (j + 1) c') (j + 1) ys := by
        have h9 := HT.out
        unfold EnV.C at h9
        rw [h9]
        refine own_mono hown3 (fun g hg => ?_)
        rcases hat with e | e
        · exact hbase g (e ▸ hg)
        · rw [hg] at e; simp at e; omega
      clear hg hat hown3 hOa Fa
      go_wp2_with fail
      go_roundw
      case rel => exact ⟨j + 1, by omega, by go_num, ⟨A', c', rfl, by rw [HY.out]; exact hO3⟩, f3⟩
      case measure => simp [intOf]; omega
    · have : j = n := by omega
      subst this
      rw [List.take_of_length_le (by rw [HN.out]; exact Nat.le_refl _)] at hO
      go_wp2_with fail
      go_ret
      exact ⟨B, j, d, rfl, HN, hO, hf⟩
end Go.Proofs.YtcaihinenfnekaaDoor
/- The reference's Of and Agree. -/
namespace Go.Proofs.YtcaihinenfnekaaDoor
open Go.RowKit
def ROfPost (w : World) (b : Nat) (q : List EnV × Nat) (ed : Ending) (w' : World) : Prop :=
  ∃ A n c b', ed = .returned (.tuple #[.agg #[.int .u64 (b' : Nat), .slice A n c], .int .i64 (q.2 : Nat)]) ∧ RefA w' A n c q.1 ∧ (q.2 = 0 → b' = b) ∧ Fr noB w w'
set_option maxRecDepth 100000 in
set_option maxHeartbeats 1600000 in
theorem ofR_calls (w : World) (b n c : Nat) (A : Option Addr) (L : List EnV) (hR : RefA w A n c L) (hn : n ≤ 1000000) (hwf : ∀ e ∈ L, e.wf) (hsz : ∀ e ∈ L, e.o.a.size ≤ 1000000000000 ∧ e.o.b.size ≤ 1000000000000) :
    Calls Tryd.prog 35 #[.int .u64 b, .slice A n c] w (ROfPost w b (ofL b L)) := by
  have HV : Hid (ofL b L = if 1099511627776 < b then ([], 17) else ofG b [] L) := rfl
  have hr : Hid (Tryd.f35.results = #[.cell 4 54, .tmp 5]) := by unfold Hid; kernel_rfl
  have f0 : Fr noB w (w.alloc (.cells #[.int .u64 0, .slice none 0 0] 54)) := (Fr.refl noB w).alloc _
  have hb4 : BlkAt (w.alloc (.cells #[.int .u64 0, .slice none 0 0] 54)) w.heap.size 54 #[.int .u64 0, .slice none 0 0] := BlkAt.new _ _ _
  have HN := hR.len
  have hrow := hR.row
  have hfs := fun (W : World) (q : Nat) (u0 u1 : Value) => ((fr_set1 W q 0 u0).then' (fr_set1 _ q 1 u1))
  generalize ofL b L = res at *
  clear hR
  by_cases hb : 1099511627776 < b
  · rw [if_pos hb] at HV
    have t1 : decide ((1099511627776 : Int) < b) = true := decide_eq_true (by omega)
    clear hb hrow
    go_enter Tryd.func35, Tryd.ntmps35
    go_upto_region 1 with fail
    generalize (w.alloc (.cells #[.int .u64 0, .slice none 0 0] 54)) = wa at *
    obtain ⟨y0, y1, yf⟩ := BlkAt.c2 hb4
    have FF := f0.trans (hfs wa w.heap.size (.int .u64 0) (.slice none 0 0)) (fun i hi h => by unfold eqB at h; omega)
    go_wp2_with fail
    have hr := hr.out
    exact bodyPost_ret (v := .tuple #[.agg #[.int .u64 0, .slice none 0 0], .int .i64 17]) (by simp [results, hr, go_sem, y0, y1]) rfl (by rw [HV.out]; exact ⟨none, 0, 0, 0, rfl, RefA.none _, (fun h => by cases h), FF⟩)
  · rw [if_neg hb] at HV
    have t1 : decide ((1099511627776 : Int) < b) = false := decide_eq_false (by omega)
    have hG0 : GoodL b [] := GoodL.new (by omega)
    clear hb
    go_enter Tryd.func35, Tryd.ntmps35
    go_upto_region 1 with fail
    generalize (w.alloc (.cells #[.int .u64 0, .slice none 0 0] 54)) = wa at *
    have f6 : Fr noB wa (wa.alloc (.cells #[.int .u64 b, .slice none 0 0] 54)) := (Fr.refl noB wa).alloc _
    have hb6 : BlkAt (wa.alloc (.cells #[.int .u64 b, .slice none 0 0] 54)) wa.heap.size 54 #[.int .u64 b, .slice none 0 0] := BlkAt.new _ _ _
    have hq4 := hb4.lt
    replace hb4 := hb4.fr f6 id
    have F6 := f0.then' f6
    go_upto_region 4 with fail
    generalize (wa.alloc (.cells #[.int .u64 b, .slice none 0 0] 54)) = wb at *
    obtain ⟨q6, hq6⟩ : ∃ q, wa.heap.size = q := ⟨_, rfl⟩
    rw [hq6] at hb6 hq4 ⊢
    clear hq6 f6 f0
    go_wp2_with fail
    go_loopw [18] (fun i wr => ∃ (j : Nat) (es : List EnV) (B : Option Addr) (m d : Nat), j ≤ n ∧ i = .int .i64 j ∧ res = ofG b es (L.drop j) ∧ BlkAt wr w.heap.size 54 #[.int .u64 0, .slice none 0 0] ∧ BlkAt wr q6 54 #[.int .u64 b, .slice B m d] ∧ RefA wr B m d es ∧ (∀ ad, B = some ad → ad.block ≠ w.heap.size ∧ ad.block ≠ q6) ∧ GoodL b es ∧ Fr noB w wr) (fun i _ => n - (intOf i).toNat)
    case atStart => exact ⟨0, [], none, 0, 0, Nat.zero_le _, rfl, by rw [HV.out]; rfl, hb4, hb6, RefA.none _, (fun ad e => by cases e), hG0, F6⟩
    case round =>
      clear hb4 hb6 hG0 F6 HV
      obtain ⟨j, es, B, m, d, hj, rfl, hres, hb4, hb6, hRB, hBn, hG, hf⟩ := hrel
      by_cases hjn : j < n
      · obtain ⟨e, he⟩ : ∃ e, L[j]? = some e := ⟨_, List.getElem?_eq_getElem (by rw [HN.out]; exact hjn)⟩
        obtain ⟨ad, rfl⟩ := hrow.some_flat (by simp [EnV.C]) he
        obtain ⟨z0, z1, z2, z3, z4, z5, z6, z7, z8⟩ := ((hrow.seg 9 (fun _ => rfl) he).fr hf id).c9
        have hmem := List.mem_of_getElem? he
        have fa : Fr noB wr (wr.alloc (.cells e.C.toArray 90)) := (Fr.refl noB wr).alloc _
        have hba : BlkAt (wr.alloc (.cells e.C.toArray 90)) wr.heap.size 90 e.C.toArray := BlkAt.new _ _ _
        have hF := hf.then' fa
        have hap := appR_calls (wr.alloc (.cells e.C.toArray 90)) b m d B es e (hRB.fr0 fa) hG (hwf e hmem) (hsz e hmem).1 (hsz e hmem).2
        have HR := hid (hres.trans (ofG_step he))
        have hG1 := hG.app (hwf e hmem)
        have hl4 := hb4.lt
        have hl6 := hb6.lt
        replace hb4 := hb4.fr fa id
        replace hb6 := hb6.fr fa id
        generalize appL b es e = ap at *
        obtain ⟨es1, r1⟩ := ap
        obtain ⟨op, view, cl, num, ⟨k, oa, ob, on, or⟩⟩ := e
        unfold EnV.C at fa hba hF hap hb4 hb6
        unfold EnV.v at hap
        simp only [] at *
        clear he hres hmem hf hRB
        go_upto_region 7 with fail
        generalize hwa : (wr.alloc (.cells #[.int .u64 op, .int .u64 view, .int .u8 cl, .int .u64 num, .int .u8 k, .string oa, .string ob, .int .u8 on, .int .u8 or] 90)) = wa at *
        clear hwa z0 z1 z2 z3 z4 z5 z6 z7 z8
        have hsa := fa.size
        clear fa
        obtain ⟨z0, z1, z2, z3, z4, z5, z6, z7, z8, zf⟩ := BlkAt.c9 hba
        obtain ⟨x0, x1, xf⟩ := BlkAt.c2 hb6
        go_wp2_with fail
        refine hap.mono ?_
        rintro ed w3 ⟨B', m', d', rfl, hR3, hP3, f3⟩
        have F3 := hF.then' f3
        have hBn' : ∀ ad, B' = some ad → ad.block ≠ w.heap.size ∧ ad.block ≠ q6 := fun ad e => by
          rcases hP3 with h1 | h1
          · exact hBn ad (h1 ▸ e)
          · have := (h1 ad e).1; omega
        have fn : Fr noB w3 (w3.alloc (.cells #[.int .u64 b, .slice B' m' d'] 54)) := (Fr.refl noB w3).alloc _
        have hb9 : BlkAt (w3.alloc (.cells #[.int .u64 b, .slice B' m' d'] 54)) w3.heap.size 54 #[.int .u64 b, .slice B' m' d'] := BlkAt.new _ _ _
        have hs3 := f3.size
        replace hb4 := (hb4.fr f3 id).fr fn id
        replace hb6 := (hb6.fr f3 id).fr fn id
        have hR4 := hR3.fr0 fn
        have F4 := F3.then' fn
        clear hap hP3 hR3 f3 fn F3 hF z0 z1 z2 z3 z4 z5 z6 z7 z8 zf hba x0 x1 xf hBn
        go_upto_region 8 with fail
        generalize hw4 : (w3.alloc (.cells #[.int .u64 b, .slice B' m' d'] 54)) = w4 at *
        clear hw4
        obtain ⟨q9, hq9⟩ : ∃ q, w3.heap.size = q := ⟨_, rfl⟩
        rw [hq9] at hb9 hs3 ⊢
        clear hq9
        by_cases hr0 : r1 = 0
        · rw [if_neg (by omega)] at HR
          subst hr0
          obtain ⟨x0, x1, xf⟩ := BlkAt.c2 hb9
          obtain ⟨y0, y1, yf⟩ := BlkAt.c2 hb6
          have fs := hfs w4 q6 (.int .u64 b) (.slice B' m' d')
          have hset := (hb6.set 0 (.int .u64 b)).set 1 (.slice B' m' d')
          have hb4' := hb4.fr fs (by unfold eqB; omega)
          have hR5 : RefA _ B' m' d' es1 := ⟨hR4.len, hR4.cap, hR4.nil, hR4.row.fr fs (fun ad e _ _ => (hBn' ad e).2)⟩
          have F5 : Fr noB w _ := F4.trans fs (fun i hi h => by unfold eqB at h; omega)
          clear hb4 hb6 hR4 F4 fs
          go_wp2_with fail
          go_roundw
          case rel => exact ⟨j + 1, es1, B', m', d', by omega, by go_num, HR.out, hb4', hset, hR5, hBn', hG1, F5⟩
          case measure => simp [intOf]; omega
        · rw [if_pos hr0] at HR
          have t2 : ((r1 : Int) != 0) = true := by rw [bne_iff_ne]; omega
          obtain ⟨y0, y1, yf⟩ := BlkAt.c2 hb4
          have FF := F4.trans (hfs w4 w.heap.size (.int .u64 0) (.slice none 0 0)) (fun i hi h => by unfold eqB at h; omega)
          go_wp2_with fail
          have hr := hr.out
          exact bodyPost_ret (v := .tuple #[.agg #[.int .u64 0, .slice none 0 0], .int .i64 r1]) (by simp [results, hr, go_sem, y0, y1]) rfl (by rw [HR.out]; exact ⟨none, 0, 0, 0, rfl, RefA.none _, (fun h => absurd h hr0), FF⟩)
      · have : j = n := by omega
        subst this
        have HR : Hid (res = (es, 0)) := by
          unfold Hid; rw [hres, List.drop_eq_nil_of_le (by rw [HN.out]; exact Nat.le_refl _)]; rfl
        obtain ⟨x0, x1, xf⟩ := BlkAt.c2 hb6
        obtain ⟨y0, y1, yf⟩ := BlkAt.c2 hb4
        have fs := hfs wr w.heap.size (.int .u64 b) (.slice B m d)
        have hR5 : RefA _ B m d es := ⟨hRB.len, hRB.cap, hRB.nil, hRB.row.fr fs (fun ad e _ _ => (hBn ad e).1)⟩
        have FF := hf.trans fs (fun i hi h => by unfold eqB at h; omega)
        clear hres hrow fs
        go_wp2_with fail
        have hr := hr.out
        exact bodyPost_ret (v := .tuple #[.agg #[.int .u64 b, .slice B m d], .int .i64 0]) (by simp [results, hr, go_sem, y0, y1]) rfl (by rw [HR.out]; exact ⟨B, m, d, b, rfl, hR5, (fun _ => rfl), FF⟩)

/-! ### Agree -/
theorem find_none {b : Nat} {es : List EnV} {k : Nat} (h : atV b es k = none) : findV b es k = -1 := by
  unfold atV at h
  unfold findV
  split at h
  · rename_i h1; rw [if_pos h1]
  · rename_i h1
    have := List.getElem?_eq_none_iff.1 h
    unfold lastL at h1
    omega
theorem find_some {b : Nat} {es : List EnV} {k : Nat} {y : EnV} (h : atV b es k = some y) : ∃ i : Nat, findV b es k = i ∧ es[i]? = some y := by
  unfold atV at h
  unfold findV
  split at h
  · cases h
  · rename_i h1; exact ⟨k - b - 1, by rw [if_neg h1], h⟩
open Classical in
set_option maxRecDepth 100000 in
set_option maxHeartbeats 1600000 in
theorem agreeR_calls (w : World) (b n c m d : Nat) (A B : Option Addr) (es L : List EnV) (hR : RefA w A n c es) (hG : GoodL b es) (hS : RefA w B m d L) (hm : m ≤ 9223372036854775807) :
    Calls Tryd.prog 38 #[.agg #[.int .u64 b, .slice A n c], .slice B m d] w (BoolPost w (!L.any (clashB b es))) := by
  have f0 : Fr noB w (w.alloc (.cells #[.int .u64 b, .slice A n c] 54)) := (Fr.refl noB w).alloc _
  have hb2 : BlkAt (w.alloc (.cells #[.int .u64 b, .slice A n c] 54)) w.heap.size 54 #[.int .u64 b, .slice A n c] := BlkAt.new _ _ _
  have HN := hR.len
  have HM := hS.len
  have hr1 := hR.row
  have hr2 := hS.row
  have hw16 := hG.few
  rw [HN.out] at hw16
  have HEQ : Hid (Tryd.prog.eqGuardType Tryd.prog.depth 90 = false) := Tryd.gR
  go_enter Tryd.func38, Tryd.ntmps38
  go_upto_region 1 with fail
  generalize (w.alloc (.cells #[.int .u64 b, .slice A n c] 54)) = wa at *
  go_wp2_with fail
  go_loopw [10] (fun i wr => ∃ j : Nat, j ≤ m ∧ i = .int .i64 j ∧ (L.take j).any (clashB b es) = false ∧ Fr noB wa wr) (fun i _ => m - (intOf i).toNat)
  case atStart => exact ⟨0, Nat.zero_le _, rfl, by simp, Fr.refl _ _⟩
  case round =>
    obtain ⟨j, hj, rfl, hne, hf⟩ := hrel
    by_cases hjm : j < m
    · obtain ⟨e, he⟩ : ∃ e, L[j]? = some e := ⟨_, List.getElem?_eq_getElem (by rw [HM.out]; exact hjm)⟩
      obtain ⟨ad, rfl⟩ := hr2.some_flat (by simp [EnV.C]) he
      obtain ⟨z0, z1, z2, z3, z4, z5, z6, z7, z8⟩ := ((hr2.seg 9 (fun _ => rfl) he).fr (f0.then' hf) id).c9
      have HT : Hid ((L.take (j + 1)).any (clashB b es) = clashB b es e) := by unfold Hid; rw [take_snoc' he, List.any_append, hne]; simp
      have HF : Hid (clashB b es e = true → (!L.any (clashB b es)) = false) := fun h => by rw [List.any_eq_true.2 ⟨e, List.mem_of_getElem? he, h⟩]; rfl
      have HV : Hid (clashB b es e = match atV b es e.op with | none => false | some x => !decide (x = e)) := rfl
      have fa : Fr noB wr (wr.alloc (.cells e.C.toArray 90)) := (Fr.refl noB wr).alloc _
      have hba : BlkAt (wr.alloc (.cells e.C.toArray 90)) wr.heap.size 90 e.C.toArray := BlkAt.new _ _ _
      have hfi := findR_calls (wr.alloc (.cells e.C.toArray 90)) b e.op n c A es (((hR.fr0 f0).fr0 hf).fr0 fa) hG
      have hF := hf.then' fa
      have HNQ : Hid (∀ W x, (binOp .neq 90 (EnV.v x) (EnV.v e)).run Tryd.prog W = .ok (.bool (!decide (x = e))) W) := fun W x => enNeqR W x e
      have hfn := fun h => find_none (b := b) (es := es) (k := e.op) h
      have hfs := fun y h => find_some (b := b) (es := es) (k := e.op) (y := y) h
      generalize clashB b es e = cv at *
      generalize atV b es e.op = o at *
      generalize findV b es e.op = fv at *
      obtain ⟨op, view, cl, num, ⟨k, oa, ob, on, or⟩⟩ := e
      unfold EnV.C at fa hba hfi hF
      unfold EnV.v at HNQ
      simp only [] at *
      clear he
      go_upto_region 4 with fail
      generalize hwb : (wr.alloc (.cells #[.int .u64 op, .int .u64 view, .int .u8 cl, .int .u64 num, .int .u8 k, .string oa, .string ob, .int .u8 on, .int .u8 or] 90)) = wb at *
      clear hwb z0 z1 z2 z3 z4 z5 z6 z7 z8
      obtain ⟨z0, z1, z2, z3, z4, z5, z6, z7, z8, zf⟩ := BlkAt.c9 hba
      replace hb2 := hb2.fr hF id
      obtain ⟨x0, x1, xf⟩ := BlkAt.c2 hb2
      go_wp2_with fail
      refine hfi.mono ?_
      rintro ed w2 ⟨rfl, f2⟩
      have F2 := hF.then' f2
      replace hb2 := hb2.fr f2 id
      replace hba := hba.fr f2 id
      clear hfi x0 x1 xf z0 z1 z2 z3 z4 z5 z6 z7 z8 zf f2 hF
      cases o with
      | none =>
        have hfv := hfn rfl
        subst hfv
        have hcv : cv = false := HV.out
        subst hcv
        clear hfn hfs HNQ HV HF
        go_wp2_with fail
        apply wp_region_calm (R := Fr noB) (C := fun _ W => Fr noB w2 W) [false, false, false, false, false, false, false, false, false, false, false]
          [eqv _, eqv (.bool false), eqv (.bool false), eqv _, eqv _, eqv _, eqv _, eqv _, eqv _, eqv _, eqv (.bool false)]
          (by kernel_rfl) (by kernel_rfl) (fun _ _ _ h1 h2 => h1.then' h2) ((Fr.refl _ _).drew) ((Fr.refl _ _).drew) (by kernel_rfl)
        · refine ⟨?_, ?_, ?_, ?_, ?_, ?_, ?_, ?_, ?_, ?_, ?_, trivial⟩
          · rw [if_neg (by decide)]; intro kq
            exact calm_mv 7 rfl rfl (Or.inl rfl) (Fr.refl _) (by decide) fun v w hd => hd
          · rw [if_neg (by decide)]; intro kq
            intro a W K hC hd hK
            have d18 : _ = _ := hd 18 (by decide)
            refine wpOp_plain rfl rfl ?_
            go_wp2_with fail
            exact hK _ _ (Fr.refl _ _) hC rfl
          · rw [if_neg (by decide)]; intro kq
            exact calm_mv 19 rfl rfl (Or.inl rfl) (Fr.refl _) (by decide) fun v w hd => hd
          · rw [if_neg (by decide)]; intro kq
            intro a W K hC hd hK
            have d2 : a.tmps[2]?.getD undef = .pointer (some ⟨w.heap.size, 0, none⟩) := hd 2 (by decide)
            have d20 : a.tmps[20]?.getD undef = .bool false := hd 20 (by decide)
            first | (exact wpOp_skip rfl (wanted_of (want := true) (b := false) rfl rfl (by rw [eval_get]; exact d20)) (hK _ _ (Fr.refl _ _) hC rfl)) | (refine wpOp_want rfl (wanted_of (want := true) (b := true) rfl rfl (by rw [eval_get]; exact d20)) ?_)
            all_goals (
              obtain ⟨x0, x1, xf⟩ := BlkAt.c2 (hb2.fr hC id)
              obtain ⟨z0, z1, z2, z3, z4, z5, z6, z7, z8, zf⟩ := BlkAt.c9 (hba.fr hC id)
              go_wp2_with fail
              exact hK _ _ (Fr.refl _ _) hC rfl)
          · rw [if_neg (by decide)]; intro kq
            intro a W K hC hd hK
            have d21 : _ = _ := hd 21 (by decide)
            have d20 : a.tmps[20]?.getD undef = .bool false := hd 20 (by decide)
            first | (exact wpOp_skip rfl (wanted_of (want := true) (b := false) rfl rfl (by rw [eval_get]; exact d20)) (hK _ _ (Fr.refl _ _) hC rfl)) | (refine wpOp_want rfl (wanted_of (want := true) (b := true) rfl rfl (by rw [eval_get]; exact d20)) ?_)
            all_goals (
              obtain ⟨x0, x1, xf⟩ := BlkAt.c2 (hb2.fr hC id)
              obtain ⟨z0, z1, z2, z3, z4, z5, z6, z7, z8, zf⟩ := BlkAt.c9 (hba.fr hC id)
              go_wp2_with fail
              exact hK _ _ (Fr.refl _ _) hC rfl)
          · rw [if_neg (by decide)]; intro kq
            intro a W K hC hd hK
            have d7 : a.tmps[7]?.getD undef = .int .i64 (-1) := hd 7 (by decide)
            have d20 : a.tmps[20]?.getD undef = .bool false := hd 20 (by decide)
            first | (exact wpOp_skip rfl (wanted_of (want := true) (b := false) rfl rfl (by rw [eval_get]; exact d20)) (hK _ _ (Fr.refl _ _) hC rfl)) | (refine wpOp_want rfl (wanted_of (want := true) (b := true) rfl rfl (by rw [eval_get]; exact d20)) ?_)
            all_goals (
              go_wp2_with fail
              exact hK _ _ (Fr.refl _ _) hC rfl)
          · rw [if_neg (by decide)]; intro kq
            intro a W K hC hd hK
            have d22 : _ = _ := hd 22 (by decide)
            have d23 : _ = _ := hd 23 (by decide)
            have d20 : a.tmps[20]?.getD undef = .bool false := hd 20 (by decide)
            first | (exact wpOp_skip rfl (wanted_of (want := true) (b := false) rfl rfl (by rw [eval_get]; exact d20)) (hK _ _ (Fr.refl _ _) hC rfl)) | (refine wpOp_want rfl (wanted_of (want := true) (b := true) rfl rfl (by rw [eval_get]; exact d20)) ?_)
            all_goals (
              obtain ⟨x0, x1, xf⟩ := BlkAt.c2 (hb2.fr hC id)
              obtain ⟨z0, z1, z2, z3, z4, z5, z6, z7, z8, zf⟩ := BlkAt.c9 (hba.fr hC id)
              go_wp2_with fail
              exact hK _ _ (Fr.refl _ _) hC rfl)
          · rw [if_neg (by decide)]; intro kq
            intro a W K hC hd hK
            have d24 : _ = _ := hd 24 (by decide)
            have d20 : a.tmps[20]?.getD undef = .bool false := hd 20 (by decide)
            first | (exact wpOp_skip rfl (wanted_of (want := true) (b := false) rfl rfl (by rw [eval_get]; exact d20)) (hK _ _ (Fr.refl _ _) hC rfl)) | (refine wpOp_want rfl (wanted_of (want := true) (b := true) rfl rfl (by rw [eval_get]; exact d20)) ?_)
            all_goals (
              obtain ⟨x0, x1, xf⟩ := BlkAt.c2 (hb2.fr hC id)
              obtain ⟨z0, z1, z2, z3, z4, z5, z6, z7, z8, zf⟩ := BlkAt.c9 (hba.fr hC id)
              go_wp2_with fail
              exact hK _ _ (Fr.refl _ _) hC rfl)
          · rw [if_neg (by decide)]; intro kq
            intro a W K hC hd hK
            have d6 : a.tmps[6]?.getD undef = .pointer (some ⟨wr.heap.size, 0, none⟩) := hd 6 (by decide)
            have d20 : a.tmps[20]?.getD undef = .bool false := hd 20 (by decide)
            first | (exact wpOp_skip rfl (wanted_of (want := true) (b := false) rfl rfl (by rw [eval_get]; exact d20)) (hK _ _ (Fr.refl _ _) hC rfl)) | (refine wpOp_want rfl (wanted_of (want := true) (b := true) rfl rfl (by rw [eval_get]; exact d20)) ?_)
            all_goals (
              obtain ⟨x0, x1, xf⟩ := BlkAt.c2 (hb2.fr hC id)
              obtain ⟨z0, z1, z2, z3, z4, z5, z6, z7, z8, zf⟩ := BlkAt.c9 (hba.fr hC id)
              go_wp2_with fail
              exact hK _ _ (Fr.refl _ _) hC rfl)
          · rw [if_neg (by decide)]; intro kq
            intro a W K hC hd hK
            have d25 : _ = _ := hd 25 (by decide)
            have d26 : _ = _ := hd 26 (by decide)
            have d20 : a.tmps[20]?.getD undef = .bool false := hd 20 (by decide)
            first | (exact wpOp_skip rfl (wanted_of (want := true) (b := false) rfl rfl (by rw [eval_get]; exact d20)) (hK _ _ (Fr.refl _ _) hC rfl)) | (refine wpOp_want rfl (wanted_of (want := true) (b := true) rfl rfl (by rw [eval_get]; exact d20)) ?_)
            all_goals (
              go_wp2_with fail
              exact hK _ _ (Fr.refl _ _) hC rfl)
          · rw [if_neg (by decide)]; intro kq
            intro a W K hC hd hK
            have d20 : a.tmps[20]?.getD undef = .bool false := hd 20 (by decide)
            have d27 : _ = _ := hd 27 (by decide)
            refine wpOp_plain rfl rfl ?_
            go_wp2_with fail
            exact hK _ _ (Fr.refl _ _) hC rfl
        · intro vs w8 fw8 cw8 hV
          have v18 : vs 0 = _ := hV 0 _ _ rfl rfl (by decide)
          have v19 : vs 1 = .bool false := hV 1 _ _ rfl rfl (by decide)
          have v20 : vs 2 = .bool false := hV 2 _ _ rfl rfl (by decide)
          have v21 : vs 3 = _ := hV 3 _ _ rfl rfl (by decide)
          have v22 : vs 4 = _ := hV 4 _ _ rfl rfl (by decide)
          have v23 : vs 5 = _ := hV 5 _ _ rfl rfl (by decide)
          have v24 : vs 6 = _ := hV 6 _ _ rfl rfl (by decide)
          have v25 : vs 7 = _ := hV 7 _ _ rfl rfl (by decide)
          have v26 : vs 8 = _ := hV 8 _ _ rfl rfl (by decide)
          have v27 : vs 9 = _ := hV 9 _ _ rfl rfl (by decide)
          have v28 : vs 10 = .bool false := hV 10 _ _ rfl rfl (by decide)
          clear hV
          simp only [putL, Act.put, Nat.reduceAdd, List.setIfInBounds_toArray, List.set_cons_zero, List.set_cons_succ, v18, v19, v20, v21, v22, v23, v24, v25, v26, v27, v28]

          have F8 := F2.then' fw8
          clear fw8 cw8
          go_wp2_with fail
          go_roundw
          case rel => exact ⟨j + 1, by omega, by go_num, HT.out, F8⟩
          case measure => simp [intOf]; omega
      | some y =>
        obtain ⟨i, rfl, hi⟩ := hfs y rfl
        have hin : i < n := by have := (List.getElem?_eq_some_iff.1 hi).1; rw [HN.out] at this; exact this
        obtain ⟨a1, rfl⟩ := hr1.some_flat (by simp [EnV.C]) hi
        have hsg := (hr1.seg 9 (fun _ => rfl) hi).fr (f0.then' F2) id
        obtain ⟨v, hv⟩ : ∃ v, (!decide (y = (⟨op, view, cl, num, ⟨k, oa, ob, on, or⟩⟩ : EnV))) = v := ⟨_, rfl⟩
        replace HNQ := hid fun W => HNQ.out W y
        simp only [hv] at HNQ HV
        have hcv : cv = v := HV.out
        subst hcv
        obtain ⟨op1, view1, cl1, num1, ⟨k1, oa1, ob1, on1, or1⟩⟩ := y
        unfold EnV.C at hsg
        simp only [] at HNQ hsg
        clear hfn hfs HV hi hv
        go_wp2_with fail
        apply wp_region_calm (R := Fr noB) (C := fun _ W => Fr noB w2 W) [false, false, false, false, false, false, false, false, false, false, false]
          [eqv _, eqv (.bool true), eqv (.bool true), eqv _, eqv _, eqv _, eqv _, eqv _, eqv _, eqv (.bool cv), eqv (.bool cv)]
          (by kernel_rfl) (by kernel_rfl) (fun _ _ _ h1 h2 => h1.then' h2) ((Fr.refl _ _).drew) ((Fr.refl _ _).drew) (by kernel_rfl)
        · refine ⟨?_, ?_, ?_, ?_, ?_, ?_, ?_, ?_, ?_, ?_, ?_, trivial⟩
          · rw [if_neg (by decide)]; intro kq
            exact calm_mv 7 rfl rfl (Or.inl rfl) (Fr.refl _) (by decide) fun v w hd => hd
          · rw [if_neg (by decide)]; intro kq
            intro a W K hC hd hK
            have d18 : _ = _ := hd 18 (by decide)
            refine wpOp_plain rfl rfl ?_
            go_wp2_with fail
            exact hK _ _ (Fr.refl _ _) hC rfl
          · rw [if_neg (by decide)]; intro kq
            exact calm_mv 19 rfl rfl (Or.inl rfl) (Fr.refl _) (by decide) fun v w hd => hd
          · rw [if_neg (by decide)]; intro kq
            intro a W K hC hd hK
            have d2 : a.tmps[2]?.getD undef = .pointer (some ⟨w.heap.size, 0, none⟩) := hd 2 (by decide)
            have d20 : a.tmps[20]?.getD undef = .bool true := hd 20 (by decide)
            first | (exact wpOp_skip rfl (wanted_of (want := true) (b := false) rfl rfl (by rw [eval_get]; exact d20)) (hK _ _ (Fr.refl _ _) hC rfl)) | (refine wpOp_want rfl (wanted_of (want := true) (b := true) rfl rfl (by rw [eval_get]; exact d20)) ?_)
            all_goals (
              obtain ⟨x0, x1, xf⟩ := BlkAt.c2 (hb2.fr hC id)
              obtain ⟨z0, z1, z2, z3, z4, z5, z6, z7, z8, zf⟩ := BlkAt.c9 (hba.fr hC id)
              obtain ⟨y0, y1, y2, y3, y4, y5, y6, y7, y8⟩ := (hsg.fr hC id).c9
              go_wp2_with fail
              exact hK _ _ (Fr.refl _ _) hC rfl)
          · rw [if_neg (by decide)]; intro kq
            intro a W K hC hd hK
            have d21 : _ = _ := hd 21 (by decide)
            have d20 : a.tmps[20]?.getD undef = .bool true := hd 20 (by decide)
            first | (exact wpOp_skip rfl (wanted_of (want := true) (b := false) rfl rfl (by rw [eval_get]; exact d20)) (hK _ _ (Fr.refl _ _) hC rfl)) | (refine wpOp_want rfl (wanted_of (want := true) (b := true) rfl rfl (by rw [eval_get]; exact d20)) ?_)
            all_goals (
              obtain ⟨x0, x1, xf⟩ := BlkAt.c2 (hb2.fr hC id)
              obtain ⟨z0, z1, z2, z3, z4, z5, z6, z7, z8, zf⟩ := BlkAt.c9 (hba.fr hC id)
              obtain ⟨y0, y1, y2, y3, y4, y5, y6, y7, y8⟩ := (hsg.fr hC id).c9
              go_wp2_with fail
              exact hK _ _ (Fr.refl _ _) hC rfl)
          · rw [if_neg (by decide)]; intro kq
            intro a W K hC hd hK
            have d7 : a.tmps[7]?.getD undef = .int .i64 i := hd 7 (by decide)
            have d20 : a.tmps[20]?.getD undef = .bool true := hd 20 (by decide)
            first | (exact wpOp_skip rfl (wanted_of (want := true) (b := false) rfl rfl (by rw [eval_get]; exact d20)) (hK _ _ (Fr.refl _ _) hC rfl)) | (refine wpOp_want rfl (wanted_of (want := true) (b := true) rfl rfl (by rw [eval_get]; exact d20)) ?_)
            all_goals (
              go_wp2_with fail
              exact hK _ _ (Fr.refl _ _) hC rfl)
          · rw [if_neg (by decide)]; intro kq
            intro a W K hC hd hK
            have d22 : _ = _ := hd 22 (by decide)
            have d23 : _ = _ := hd 23 (by decide)
            have d20 : a.tmps[20]?.getD undef = .bool true := hd 20 (by decide)
            first | (exact wpOp_skip rfl (wanted_of (want := true) (b := false) rfl rfl (by rw [eval_get]; exact d20)) (hK _ _ (Fr.refl _ _) hC rfl)) | (refine wpOp_want rfl (wanted_of (want := true) (b := true) rfl rfl (by rw [eval_get]; exact d20)) ?_)
            all_goals (
              obtain ⟨x0, x1, xf⟩ := BlkAt.c2 (hb2.fr hC id)
              obtain ⟨z0, z1, z2, z3, z4, z5, z6, z7, z8, zf⟩ := BlkAt.c9 (hba.fr hC id)
              obtain ⟨y0, y1, y2, y3, y4, y5, y6, y7, y8⟩ := (hsg.fr hC id).c9
              go_wp2_with fail
              exact hK _ _ (Fr.refl _ _) hC rfl)
          · rw [if_neg (by decide)]; intro kq
            intro a W K hC hd hK
            have d24 : _ = _ := hd 24 (by decide)
            have d20 : a.tmps[20]?.getD undef = .bool true := hd 20 (by decide)
            first | (exact wpOp_skip rfl (wanted_of (want := true) (b := false) rfl rfl (by rw [eval_get]; exact d20)) (hK _ _ (Fr.refl _ _) hC rfl)) | (refine wpOp_want rfl (wanted_of (want := true) (b := true) rfl rfl (by rw [eval_get]; exact d20)) ?_)
            all_goals (
              obtain ⟨x0, x1, xf⟩ := BlkAt.c2 (hb2.fr hC id)
              obtain ⟨z0, z1, z2, z3, z4, z5, z6, z7, z8, zf⟩ := BlkAt.c9 (hba.fr hC id)
              obtain ⟨y0, y1, y2, y3, y4, y5, y6, y7, y8⟩ := (hsg.fr hC id).c9
              go_wp2_with fail
              exact hK _ _ (Fr.refl _ _) hC rfl)
          · rw [if_neg (by decide)]; intro kq
            intro a W K hC hd hK
            have d6 : a.tmps[6]?.getD undef = .pointer (some ⟨wr.heap.size, 0, none⟩) := hd 6 (by decide)
            have d20 : a.tmps[20]?.getD undef = .bool true := hd 20 (by decide)
            first | (exact wpOp_skip rfl (wanted_of (want := true) (b := false) rfl rfl (by rw [eval_get]; exact d20)) (hK _ _ (Fr.refl _ _) hC rfl)) | (refine wpOp_want rfl (wanted_of (want := true) (b := true) rfl rfl (by rw [eval_get]; exact d20)) ?_)
            all_goals (
              obtain ⟨x0, x1, xf⟩ := BlkAt.c2 (hb2.fr hC id)
              obtain ⟨z0, z1, z2, z3, z4, z5, z6, z7, z8, zf⟩ := BlkAt.c9 (hba.fr hC id)
              obtain ⟨y0, y1, y2, y3, y4, y5, y6, y7, y8⟩ := (hsg.fr hC id).c9
              go_wp2_with fail
              exact hK _ _ (Fr.refl _ _) hC rfl)
          · rw [if_neg (by decide)]; intro kq
            intro a W K hC hd hK
            have d25 : _ = _ := hd 25 (by decide)
            have d26 : _ = _ := hd 26 (by decide)
            have d20 : a.tmps[20]?.getD undef = .bool true := hd 20 (by decide)
            first | (exact wpOp_skip rfl (wanted_of (want := true) (b := false) rfl rfl (by rw [eval_get]; exact d20)) (hK _ _ (Fr.refl _ _) hC rfl)) | (refine wpOp_want rfl (wanted_of (want := true) (b := true) rfl rfl (by rw [eval_get]; exact d20)) ?_)
            all_goals (
              have hnq := HNQ.out
              have hm := HEQ.out
              go_wp2_with fail
              exact hK _ _ (Fr.refl _ _) hC rfl)
          · rw [if_neg (by decide)]; intro kq
            intro a W K hC hd hK
            have d20 : a.tmps[20]?.getD undef = .bool true := hd 20 (by decide)
            have d27 : a.tmps[27]?.getD undef = .bool cv := hd 27 (by decide)
            refine wpOp_plain rfl rfl ?_
            go_wp2_with fail
            exact hK _ _ (Fr.refl _ _) hC rfl
        · intro vs w8 fw8 cw8 hV
          have v18 : vs 0 = _ := hV 0 _ _ rfl rfl (by decide)
          have v19 : vs 1 = .bool true := hV 1 _ _ rfl rfl (by decide)
          have v20 : vs 2 = .bool true := hV 2 _ _ rfl rfl (by decide)
          have v21 : vs 3 = _ := hV 3 _ _ rfl rfl (by decide)
          have v22 : vs 4 = _ := hV 4 _ _ rfl rfl (by decide)
          have v23 : vs 5 = _ := hV 5 _ _ rfl rfl (by decide)
          have v24 : vs 6 = _ := hV 6 _ _ rfl rfl (by decide)
          have v25 : vs 7 = _ := hV 7 _ _ rfl rfl (by decide)
          have v26 : vs 8 = _ := hV 8 _ _ rfl rfl (by decide)
          have v27 : vs 9 = .bool cv := hV 9 _ _ rfl rfl (by decide)
          have v28 : vs 10 = .bool cv := hV 10 _ _ rfl rfl (by decide)
          clear hV
          simp only [putL, Act.put, Nat.reduceAdd, List.setIfInBounds_toArray, List.set_cons_zero, List.set_cons_succ, v18, v19, v20, v21, v22, v23, v24, v25, v26, v27, v28]

          have F8 := F2.then' fw8
          clear fw8 cw8 HNQ
          cases cv with
          | true =>
            go_wp2_with fail
            go_ret
            exact BoolPost.mk' (HF.out (by trivial)).symm (f0.then' F8)
          | false =>
            go_wp2_with fail
            go_roundw
            case rel => exact ⟨j + 1, by omega, by go_num, HT.out, F8⟩
            case measure => simp [intOf]; omega
    · have : j = m := by omega
      subst this
      rw [List.take_of_length_le (by rw [HM.out]; exact Nat.le_refl _)] at hne
      have HE := hid hne
      clear hne
      go_wp2_with fail
      go_ret
      exact BoolPost.mk' (by rw [HE.out]; rfl) (f0.then' hf)
end Go.Proofs.YtcaihinenfnekaaDoor
