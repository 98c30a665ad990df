/- slot.Put. -/
import Derived.Test.YtnkdlmmdaagonaaSlot2
import Derived.Test.YtnkdlmmdaagonaaSlot3
namespace Go.Proofs.Ytnkdlmmdaagonaa
open Go.RowKit Go.Shelf
attribute [local go_sem] Oper.semAt_some
def partS (bs : List UInt8) (k : Nat) : List UInt8 := (bs.drop (128 * k)).take 128
/-- One part is written: the device, the error's number, how many were written. -/
def stepQ (f : Nat) (bs : List UInt8) (q : DevV × Nat × Nat) (x : Nat) : DevV × Nat × Nat :=
  if q.2.1 ≠ 0 then q else ((writeD q.1 ((f + q.2.2 : Nat) : Int) (partS bs x)).1, (writeD q.1 ((f + q.2.2 : Nat) : Int) (partS bs x)).2, q.2.2 + 1)
def putQ (d : DevV) (f : Nat) (bs : List UInt8) (l : List Nat) : DevV × Nat × Nat := l.foldl (stepQ f bs) (d, 0, 0)
theorem putQ_snoc (d : DevV) (f : Nat) (bs : List UInt8) (l : List Nat) (x : Nat) : putQ d f bs (l ++ [x]) = stepQ f bs (putQ d f bs l) x := by
  unfold putQ; rw [List.foldl_append]; rfl
theorem stepQ_stay (f : Nat) (bs : List UInt8) {q : DevV × Nat × Nat} (h : q.2.1 ≠ 0) : ∀ l : List Nat, l.foldl (stepQ f bs) q = q
  | [] => rfl
  | x :: l => by
    rw [List.foldl_cons]
    have : stepQ f bs q x = q := by unfold stepQ; rw [if_pos h]
    rw [this]; exact stepQ_stay f bs h l
theorem putQ_stay {d : DevV} {f : Nat} {bs : List UInt8} {k N : Nat} (hk : k ≤ N) (h : (putQ d f bs (List.range k)).2.1 ≠ 0) : putQ d f bs (List.range N) = putQ d f bs (List.range k) := by
  have e : List.range N = List.range k ++ (List.range N).drop k := by
    have := List.take_append_drop k (List.range N)
    rw [List.take_range, Nat.min_eq_left hk] at this
    exact this.symm
  conv => lhs; rw [e]
  unfold putQ at h ⊢
  rw [List.foldl_append]
  exact stepQ_stay f bs h _
theorem putQ_idx (d : DevV) (f : Nat) (bs : List UInt8) (l : List Nat) : (putQ d f bs l).2.2 ≤ l.length := by
  unfold putQ
  suffices h : ∀ (l : List Nat) (q : DevV × Nat × Nat), (l.foldl (stepQ f bs) q).2.2 ≤ q.2.2 + l.length by
    have := h l (d, 0, 0); simpa using this
  intro l
  induction l with
  | nil => intro q; exact Nat.le_refl _
  | cons x l ih =>
    intro q
    rw [List.foldl_cons, List.length_cons]
    have h1 := ih (stepQ f bs q x)
    have h2 : (stepQ f bs q x).2.2 ≤ q.2.2 + 1 := by unfold stepQ; split <;> simp
    omega
theorem writeD_wait (d : DevV) (i : Int) (b : List UInt8) : (writeD d i b).1.wait.length ≤ d.wait.length + 1 := by
  have hb : (burnD d).1.wait.length ≤ d.wait.length := by
    unfold burnD
    split
    · exact Nat.le_refl _
    · split
      · exact Nat.le_refl _
      · unfold cutD
        split
        · exact Nat.le_refl _
        · simp [keepD]
  unfold writeD
  split
  · simp only; omega
  · split
    · simp only; omega
    · split
      · omega
      · simp only [List.length_append, List.length_cons, List.length_nil]; omega
theorem putQ_wait (d : DevV) (f : Nat) (bs : List UInt8) (l : List Nat) : (putQ d f bs l).1.wait.length ≤ d.wait.length + l.length := by
  unfold putQ
  suffices h : ∀ (l : List Nat) (q : DevV × Nat × Nat), (l.foldl (stepQ f bs) q).1.wait.length ≤ q.1.wait.length + l.length from h l (d, 0, 0)
  intro l
  induction l with
  | nil => intro q; exact Nat.le_refl _
  | cons x l ih =>
    intro q
    rw [List.foldl_cons, List.length_cons]
    have h1 := ih (stepQ f bs q x)
    have h2 : (stepQ f bs q x).1.wait.length ≤ q.1.wait.length + 1 := by
      unfold stepQ; split
      · omega
      · exact writeD_wait _ _ _
    omega
theorem partS_len (bs : List UInt8) (x : Nat) : (partS bs x).length = chM bs.length x := by
  unfold partS chM; rw [List.length_take, List.length_drop]
theorem DevAt.foot9 {w w' : World} {p : Nat} {d : DevV} (h : DevAt w p d) (f : Fr noB w w') : ∀ j, devB p w' j → devB p w j := by
  obtain ⟨KA, kn, kc, WA, wn, wc, ks, ws, h⟩ := h
  exact fun j hj => devB_cells h.blk (h.blk.fr f id) rfl rfl j hj
theorem dev_own {β : Type} (B p : Nat) (d : DevV) : OwnFrom B (fun (_ : β) W => DevAt W p d) := fun _ W W' row hs hg hr => by
  obtain ⟨KA, kn, kc, WA, wn, wc, ks, ws, h⟩ := (hs : DevAt W p d)
  have hf : Fr (fun k => row = some k) W W' := Fr.grown (Fr.refl _ W) hg (fun k e => Or.inl e)
  refine ⟨KA, kn, kc, WA, wn, wc, ks, ws, h.fr hf (fun k e hk => ?_) (fun k C e hb => ?_)⟩
  · obtain ⟨_, o, ho, hc⟩ := hr k e
    rcases hk with rfl | ⟨D, hD, hv⟩
    · have := h.blk; unfold BlkAt at this; rw [this] at ho; cases ho; cases hc
    · have h1 := h.blk
      unfold BlkAt at h1
      rw [h1] at hD
      have e : D = #[.slice KA kn kc, .slice WA wn wc, .bool d.down, .int .i64 d.fuse, .int .u64 (d.mask : Nat)] := by
        simp only [Option.some.injEq, Obj.cells.injEq, true_and, and_true] at hD; exact hD.symm
      subst e
      rcases hv with ⟨v, e1, e2⟩ | ⟨v, e1, e2⟩
      · simp at e1; subst e1
        obtain ⟨C', hC'⟩ := own_typ h.hk e2
        rw [hC'] at ho; cases ho; cases hc
      · simp at e1; subst e1
        obtain ⟨C', hC'⟩ := own_typ h.hw e2
        rw [hC'] at ho; cases ho; cases hc
  · obtain ⟨_, o, ho, hc⟩ := hr k e
    unfold BlkAt at hb; rw [hb] at ho; cases ho; cases hc
theorem fr_own {β : Type} (B : Nat) (S : Nat → Prop) (w0 : World) (hB : w0.heap.size ≤ B) : OwnFrom B (fun (_ : β) W => Fr S w0 W) := fun _ W W' row hs hg hr =>
  Fr.grown (hs : Fr S w0 W) hg (fun k e => Or.inr (Nat.le_trans hB (hr k e).1))
/-- The device's blocks are old ones, or made behind the boxes. -/
def FootS (p : Nat) (w : World) (M : Nat) (W : World) : Prop := ∀ j, devB p W j → devB p w j ∨ M ≤ j
/-- A device whose footprint is known, and what else stayed. -/
def PutD (p : Nat) (w : World) (M : Nat) (d : DevV) (W : World) : Prop := DevAt W p d ∧ Fr (devB p w) w W ∧ FootS p w M W
theorem put_own {β : Type} (B p M : Nat) (w : World) (d : DevV) (hB : w.heap.size ≤ B) : OwnFrom B (fun (_ : β) W => PutD p w M d W) := fun s W W' row hs hg hr => by
  obtain ⟨h1, h2, h3⟩ := (hs : PutD p w M d W)
  have h1' := dev_own B p d s W W' row h1 hg hr
  refine ⟨h1', fr_own B _ w hB s W W' row h2 hg hr, fun j hj => ?_⟩
  obtain ⟨KA, kn, kc, WA, wn, wc, ks, ws, h⟩ := h1
  have hb : BlkAt W' p 87 _ := blk_own B p _ _ s W W' row h.blk hg hr
  exact h3 j (devB_cells h.blk hb rfl rfl j hj)
theorem PutD.step {p : Nat} {w : World} {M : Nat} {d d' : DevV} {W W' : World} (h : PutD p w M d W) (h' : DevAt W' p d') (s : DStep p W W') (hM : M ≤ W.heap.size) (hwM : w.heap.size ≤ M) : PutD p w M d' W' :=
  ⟨h', h.2.1.trans s.fr (fun i hi hj => (h.2.2 i hj).elim id fun g => by omega), fun j hj => (s.foot j hj).elim (h.2.2 j) fun g => .inr (by omega)⟩
theorem keeps_dev {B : Nat} {W W' : World} {p : Nat} {d : DevV} (h : DevAt W p d) (s : DStep p W W') : KeepsFrom B W W' := ⟨s.fr.size, fun k o _ hk hc => by
  refine (s.fr.block k (Array.getElem?_eq_some_iff.1 hk).1 (fun g => ?_)).trans hk
  obtain ⟨KA, kn, kc, WA, wn, wc, ks, ws, h⟩ := h
  rcases g with rfl | ⟨D, hD, hv⟩
  · have := h.blk; unfold BlkAt at this; rw [this] at hk; cases hk; cases hc
  · have h1 := h.blk
    unfold BlkAt at h1
    rw [h1] at hD
    have e : D = #[.slice KA kn kc, .slice WA wn wc, .bool d.down, .int .i64 d.fuse, .int .u64 (d.mask : Nat)] := by
      simp only [Option.some.injEq, Obj.cells.injEq, true_and, and_true] at hD; exact hD.symm
    subst e
    rcases hv with ⟨v, e1, e2⟩ | ⟨v, e1, e2⟩
    · simp at e1; subst e1
      obtain ⟨C', hC'⟩ := own_typ h.hk e2
      rw [hC'] at hk; cases hk; cases hc
    · simp at e1; subst e1
      obtain ⟨C', hC'⟩ := own_typ h.hw e2
      rw [hC'] at hk; cases hk; cases hc⟩
theorem PutD.set {p : Nat} {w : World} {M : Nat} {d : DevV} {W W' : World} {b : Nat} {T : TypeId} {C : Array Value} (h : PutD p w M d W) (hb : BlkAt W b T C) (h1 : T ≠ 5) (hn : ¬ devB p W b) (f : Fr (eqB b) W W') (hw : w.heap.size ≤ b) : PutD p w M d W' := by
  obtain ⟨hd, hf, hF⟩ := h
  obtain ⟨KA, kn, kc, WA, wn, wc, ks, ws, hR⟩ := hd
  refine ⟨⟨KA, kn, kc, WA, wn, wc, ks, ws, hR.fr f (fun k e => by unfold eqB at e; subst e; exact hn) (fun k D e g => ?_)⟩, hf.trans f (fun i hi e => by unfold eqB at e; omega), fun j hj => hF j (devB_cells hR.blk (hR.blk.fr f (fun e => hn (by unfold eqB at e; exact .inl e.symm))) rfl rfl j hj)⟩
  unfold eqB at e; subst e
  unfold BlkAt at hb g; rw [hb] at g; simp only [Option.some.injEq, Obj.cells.injEq] at g; exact h1 g.2.1
theorem PutD.fresh {p : Nat} {w : World} {M : Nat} {d : DevV} {W W' : World} (h : PutD p w M d W) (f : Fr (eqB W.heap.size) W W') (hw : w.heap.size ≤ W.heap.size) : PutD p w M d W' := by
  obtain ⟨hd, hf, hF⟩ := h
  have hlt := fun k (hk : devB p W k) => devB_lt hd hk
  obtain ⟨KA, kn, kc, WA, wn, wc, ks, ws, hR⟩ := hd
  refine ⟨⟨KA, kn, kc, WA, wn, wc, ks, ws, hR.fr f (fun k e g => by unfold eqB at e; have := hlt k g; omega) (fun k D e g => by unfold eqB at e; have := BlkAt.lt g; omega)⟩, hf.trans f (fun i hi e => by unfold eqB at e; omega), fun j hj => hF j (devB_cells hR.blk (hR.blk.fr f (fun e => by unfold eqB at e; have := BlkAt.lt hR.blk; omega)) rfl rfl j hj)⟩
theorem PutD.step0 {p : Nat} {w : World} {M : Nat} {d : DevV} {W : World} (h : PutD p w M d W) (hM : w.heap.size ≤ M) : DStep p w W := ⟨h.2.1, fun j hj => (h.2.2 j hj).elim .inl fun g => .inr (by omega)⟩
theorem RowAt.part {w : World} {A : Option Addr} {bs : List UInt8} {n : Nat} (h : RowAt w A (bcells bs)) (hl : bs.length = n) (hnil : A = none → n = 0) (x : Nat) : RowAt w (A.map (·.add (128 * x))) (bcells (partS bs x)) := by
  cases A with
  | none =>
    have : bs = [] := List.length_eq_zero_iff.1 (by rw [hl]; exact hnil rfl)
    subst this
    unfold partS
    rw [List.drop_nil, List.take_nil]
    exact RowAt.nil _ _
  | some ad =>
    refine fun j u hu => ⟨_, rfl, ?_⟩
    unfold partS bcells at hu
    rw [List.map_take, List.map_drop, List.getElem?_take] at hu
    split at hu
    · rw [List.getElem?_drop] at hu
      have := h.cell (j := 128 * x + j) (by unfold bcells; exact hu)
      rw [add_add']; exact this
    · cases hu
/-- What Put answers. -/
def putS (d : DevV) (s : Nat) (bs : List UInt8) : DevV × Nat × Nat × Nat :=
  if (putQ d (firstS s) bs (List.range ((bs.length + 127) / 128))).2.1 ≠ 0 then ((putQ d (firstS s) bs (List.range ((bs.length + 127) / 128))).1, 0, 0, (putQ d (firstS s) bs (List.range ((bs.length + 127) / 128))).2.1)
  else ((putQ d (firstS s) bs (List.range ((bs.length + 127) / 128))).1, bs.length, crcSum bs, 0)
def SlotPPost (w : World) (p : Nat) (q : DevV × Nat × Nat × Nat) (e : Ending) (w' : World) : Prop :=
  e = .returned (.tuple #[.int .u32 (q.2.1 : Nat), .int .u32 (q.2.2.1 : Nat), .int .i64 (q.2.2.2 : Nat)]) ∧ DevAt w' p q.1 ∧ DStep p w w'
set_option maxRecDepth 100000 in
set_option maxHeartbeats 8000000 in
theorem slotPut_ok (w : World) (p : Nat) (d : DevV) (s : Nat) (A : Option Addr) (n c : Nat) (bs : List UInt8) (h : DevAt w p d) (hs : s ≤ 1) (hn5 : n ≤ 5632) (hrow : RowAt w A (bcells bs)) (hl : bs.length = n) (hnc : n ≤ c) (hcm : c ≤ 9223372036854775807) (hnil : A = none → n = 0 ∧ c = 0) (hbB : ∀ a, A = some a → 0 < n → ¬ devB p w a.block) (hwl : d.wait.length ≤ 1000000) :
    Calls Try.prog 15 #[.pointer (some ⟨p, 0, none⟩), .int .u8 s, .slice A n c] w (SlotPPost w p (putS d s bs)) := by
  have HRES : Hid (Try.f15.results = #[.cell 6 34, .cell 7 34, .cell 8 31]) := by unfold Hid; kernel_rfl
  have HPS : Hid (putS d s bs = if (putQ d (firstS s) bs (List.range ((n + 127) / 128))).2.1 ≠ 0 then ((putQ d (firstS s) bs (List.range ((n + 127) / 128))).1, 0, 0, (putQ d (firstS s) bs (List.range ((n + 127) / 128))).2.1) else ((putQ d (firstS s) bs (List.range ((n + 127) / 128))).1, n, crcSum bs, 0)) := by unfold Hid putS; rw [hl]
  generalize putS d s bs = ps at *
  have hck := fun W => slotCheck_calls W s n
  have hc0 : checkT s n = 0 := by unfold checkT; rw [if_neg (by omega), if_neg (by omega)]
  rw [hc0] at hck
  have hfi := fun W => slotFirst_calls W s (by omega)
  refine (callsIn_wide (n := 6)).1 ?_
  refine callsIn_of_wp_marks Try.func15 rfl trivial ?_ rfl
  simp only [Try.ntmps15, List.size_toArray, List.length_cons, List.length_nil, Nat.reduceAdd, Nat.reduceSub, Array.replicate_succ, Array.replicate_zero, List.push_toArray, List.append_toArray, List.nil_append, List.cons_append]
  have f0 : Fr noB w ((((w.alloc (.cells #[.pointer (some ⟨p, 0, none⟩)] 29)).alloc (.cells #[.int .u32 0] 34)).alloc (.cells #[.int .u32 0] 34)).alloc (.cells #[.int .i64 0] 31)) := ((((Fr.refl noB w).alloc _).alloc _).alloc _).alloc _
  have b3 := (((BlkAt.new w #[.pointer (some ⟨p, 0, none⟩)] 29).al (.cells #[.int .u32 0] 34)).al (.cells #[.int .u32 0] 34)).al (.cells #[.int .i64 0] 31)
  have b6 := ((BlkAt.new (w.alloc (.cells #[.pointer (some ⟨p, 0, none⟩)] 29)) #[.int .u32 0] 34).al (.cells #[.int .u32 0] 34)).al (.cells #[.int .i64 0] 31)
  have b7 := (BlkAt.new ((w.alloc (.cells #[.pointer (some ⟨p, 0, none⟩)] 29)).alloc (.cells #[.int .u32 0] 34)) #[.int .u32 0] 34).al (.cells #[.int .i64 0] 31)
  have b8 := BlkAt.new (((w.alloc (.cells #[.pointer (some ⟨p, 0, none⟩)] 29)).alloc (.cells #[.int .u32 0] 34)).alloc (.cells #[.int .u32 0] 34)) #[.int .i64 0] 31
  have hsz1 : ((((w.alloc (.cells #[.pointer (some ⟨p, 0, none⟩)] 29)).alloc (.cells #[.int .u32 0] 34)).alloc (.cells #[.int .u32 0] 34)).alloc (.cells #[.int .i64 0] 31)).heap.size = w.heap.size + 4 := by simp only [al_size]
  simp only [al_size] at b6 b7 b8
  refine wpIn_wide.2 ?_
  go_wp2_with fail
  refine (hck _).mono ?_
  rintro e w' ⟨rfl, rfl⟩
  go_wp2_with fail
  refine (hfi _).mono ?_
  rintro e w' ⟨rfl, rfl⟩
  generalize ((((w.alloc (.cells #[.pointer (some ⟨p, 0, none⟩)] 29)).alloc (.cells #[.int .u32 0] 34)).alloc (.cells #[.int .u32 0] 34)).alloc (.cells #[.int .i64 0] 31)) = W1 at *
  clear hck hfi
  have hf0 : firstS s ≤ 78 := by unfold firstS; omega
  generalize firstS s = f at *
  go_wp2_with fail
  refine (chunk_calls _ A n c).mono ?_
  rintro e w' ⟨rfl, rfl⟩
  have f1 := (((Fr.refl noB W1).alloc (.cells #[.int .i64 (f : Nat)] 3)).alloc (.cells #[.slice A n c] 22)).alloc (.cells #[.int .i64 128] 3)
  have c3 := b3.fr f1 id
  have c6 := b6.fr f1 id
  have c7 := b7.fr f1 id
  have c8 := b8.fr f1 id
  have c10 := ((BlkAt.new W1 #[.int .i64 (f : Nat)] 3).al (.cells #[.slice A n c] 22)).al (.cells #[.int .i64 128] 3)
  have cB1 := (BlkAt.new (W1.alloc (.cells #[.int .i64 (f : Nat)] 3)) #[.slice A n c] 22).al (.cells #[.int .i64 128] 3)
  have cB2 := BlkAt.new ((W1.alloc (.cells #[.int .i64 (f : Nat)] 3)).alloc (.cells #[.slice A n c] 22)) #[.int .i64 128] 3
  have hszL : (((W1.alloc (.cells #[.int .i64 (f : Nat)] 3)).alloc (.cells #[.slice A n c] 22)).alloc (.cells #[.int .i64 128] 3)).heap.size = w.heap.size + 7 := by simp only [al_size, hsz1]
  simp only [al_size, hsz1] at c10 cB1 cB2 ⊢
  have f2 := f0.then' f1
  go_wp2_with fail
  generalize (((W1.alloc (.cells #[.int .i64 (f : Nat)] 3)).alloc (.cells #[.slice A n c] 22)).alloc (.cells #[.int .i64 128] 3)) = W0 at *
  clear f1 b3 b6 b7 b8 hsz1 f0
  have hN44 : (n + 127) / 128 ≤ 44 := by omega
  have hPD0 : PutD p w (w.heap.size + 7) d W0 := ⟨h.fr0 f2, f2.mono (fun _ _ g => g.elim), fun j hj => .inl (by
    obtain ⟨KA, kn, kc, WA, wn, wc, ks, ws, h⟩ := h
    exact devB_cells h.blk (h.blk.fr f2 id) rfl rfl j hj)⟩
  refine (wpIn_wide (n := 6)).1 ?_
  refine wpIn_rangeFunc_ownH rfl (by decide) (gf := 71) (lb := #[.pointer (some ⟨w.heap.size + 4 + 1, 0, none⟩), .pointer (some ⟨w.heap.size + 4 + 1 + 1, 0, none⟩)]) rfl trivial (enters_of Try.func71 (by kernel_rfl) rfl)
    (chunk_stops (6 - 1) (by decide) (w.heap.size + 4 + 1) (w.heap.size + 4 + 1 + 1) n c A (by omega) hnc hcm hnil W0 cB1 cB2) (fun h k => h.t k) (keepB_b (by omega) (by omega)) (Below.refl _ _) (fun _ => rfl)
    (fun pre W => ((((((PutD p w (w.heap.size + 7) (putQ d f bs pre).1 W ∧ BlkAt W w.heap.size 29 #[.pointer (some ⟨p, 0, none⟩)]) ∧ BlkAt W (w.heap.size + 1) 34 #[.int .u32 0]) ∧ BlkAt W (w.heap.size + 1 + 1) 34 #[.int .u32 0]) ∧ BlkAt W (w.heap.size + 1 + 1 + 1) 31 #[.int .i64 0]) ∧ BlkAt W (w.heap.size + 4) 3 #[.int .i64 (f + (putQ d f bs pre).2.2 : Nat)]) ∧ ((putQ d f bs pre).2.1 = 0)) ∧ W0.heap.size ≤ W.heap.size)
    (fun co pre W => (((PutD p w (w.heap.size + 7) (putQ d f bs pre).1 W ∧ BlkAt W (w.heap.size + 1) 34 #[.int .u32 0]) ∧ BlkAt W (w.heap.size + 1 + 1) 34 #[.int .u32 0]) ∧ BlkAt W (w.heap.size + 1 + 1 + 1) 31 #[.int .i64 ((putQ d f bs pre).2.1 : Nat)]) ∧ (co = .ret ∧ (putQ d f bs pre).2.1 ≠ 0))
    (OwnFrom.and (OwnFrom.and (OwnFrom.and (OwnFrom.and (OwnFrom.and (OwnFrom.and (OwnFrom.and (fun pre W W' row hs hg hr => put_own W0.heap.size p _ w _ (by omega) () W W' row hs hg hr) (blk_own _ _ _ _)) (blk_own _ _ _ _)) (blk_own _ _ _ _)) (blk_own _ _ _ _)) (fun pre W W' row hs hg hr => blk_own W0.heap.size _ _ _ () W W' row hs hg hr)) (fun _ _ _ _ hs _ _ => hs)) (fun _ W W' row hs hg hr => Nat.le_trans hs hg.size))
    (fun co => OwnFrom.and (OwnFrom.and (OwnFrom.and (OwnFrom.and (fun pre W W' row hs hg hr => put_own W0.heap.size p _ w _ (by omega) () W W' row hs hg hr) (blk_own _ _ _ _)) (blk_own _ _ _ _)) (fun pre W W' row hs hg hr => blk_own W0.heap.size _ _ _ () W W' row hs hg hr)) (fun _ _ _ _ hs _ _ => hs))
    ⟨⟨⟨⟨⟨⟨⟨hPD0, c3⟩, c6⟩, c7⟩, c8⟩, c10⟩, rfl⟩, Nat.le_refl _⟩
    (fun x a' W => a' = { tmps := #[.pointer (some ⟨p, 0, none⟩), .int .u8 s, .slice A n c, .pointer (some ⟨w.heap.size, 0, none⟩), undef, undef, .pointer (some ⟨w.heap.size + 1, 0, none⟩), .pointer (some ⟨w.heap.size + 1 + 1, 0, none⟩), .pointer (some ⟨w.heap.size + 1 + 1 + 1, 0, none⟩), .int .i64 0, .pointer (some ⟨w.heap.size + 4, 0, none⟩), .slice (A.map (·.add (128 * x))) (chM n x) (chM n x), undef, .int .u8 s, .slice A n c, .int .i64 n, .int .i64 0, .int .i64 0, .bool false, undef, .int .u8 s, .int .i64 (f : Nat), .slice A n c, .func (.func 71) #[] #[.pointer (some ⟨w.heap.size + 4 + 1, 0, none⟩), .pointer (some ⟨w.heap.size + 4 + 1 + 1, 0, none⟩)], .slice (A.map (·.add (128 * x))) (chM n x) (chM n x), undef, undef, undef, undef, undef, undef, undef, undef, undef, undef, undef, undef, undef, undef, undef], defers := [] })
    (fun x a' _ X Y row hs hg hr => hs)
    ?assign ?body ?done ?stop
  case assign =>
    rintro l pre x W K hI hK
    have he1 : encC A n x = #[.slice (A.map (·.add (128 * x))) (chM n x) (chM n x)] := rfl
    rw [he1]
    dsimp only at hK
    generalize A.map (·.add (128 * x)) = Ax at *
    generalize chM n x = mx at *
    clear he1
    gi_wp2
    exact hK _ _ (KeepsFrom.refl _ _) (KeepB.refl _ _ _) hI rfl
  case body =>
    rintro l pre x a' W hl0 ⟨r, hlr⟩ ⟨⟨⟨⟨⟨⟨⟨hPD, k3⟩, k6⟩, k7⟩, k8⟩, k10⟩, hQ0⟩, hsW⟩ rfl hlt
    have hwt := putQ_wait d f bs pre
    obtain ⟨⟨D, qe, qi⟩, hq⟩ : ∃ q, putQ d f bs pre = q := ⟨_, rfl⟩
    rw [hq] at hPD k10 hQ0 hwt
    simp only [] at hPD k10 hQ0 hwt
    subst hQ0
    have hdw := fun j (hj : devB p w j) => devB_lt h hj
    have hnb : ∀ j, w.heap.size ≤ j → j < w.heap.size + 7 → ¬ devB p W j := fun j h1 h2 g => (hPD.2.2 j g).elim (fun g => by have := hdw j g; omega) fun g => by omega
    have hrowW : RowAt W A (bcells bs) := hrow.fr hPD.2.1 (fun ad e h0 _ => hbB ad e (by rw [bcells_length, hl] at h0; exact h0))
    have hwr := write_calls W p D ((f + qi : Nat) : Int) (A.map (·.add (128 * x))) (chM n x) (chM n x) (partS bs x) hPD.1 (hrowW.part hl (fun e => (hnil e).1) x) (by rw [partS_len, hl]) (fun e => by
        have : A = none := by cases A with | none => rfl | some a => cases e
        have := (hnil this).1; unfold chM; omega) (fun a e h0 g => by
        obtain ⟨ad, rfl⟩ : ∃ ad, A = some ad := by cases A with | none => cases e | some ad => exact ⟨ad, rfl⟩
        simp only [Option.map_some, Option.some.injEq] at e
        subst e
        rw [add_block] at g
        have hn0 : 0 < n := by unfold chM at h0; omega
        have hlt2 := hrow.lt (by rw [bcells_length, hl]; exact hn0)
        rcases hPD.2.2 _ g with g | g
        · exact hbB ad rfl hn0 g
        · omega) (by omega) (Nat.le_refl _)
    have HQ : Hid (putQ d f bs (pre ++ [x]) = ((writeD D ((f + qi : Nat) : Int) (partS bs x)).1, (writeD D ((f + qi : Nat) : Int) (partS bs x)).2, qi + 1)) := by
      unfold Hid; rw [putQ_snoc, hq]; unfold stepQ; rw [if_neg (by simp)]
    generalize writeD D ((f + qi : Nat) : Int) (partS bs x) = wd at *
    obtain ⟨D2, we⟩ := wd
    simp only [] at hwr HQ
    have hwi := ((callsIn_wide (n := 6 - 1 - 1 - 1)).2 hwr).inRound l
    have HQI : Hid ((putQ d f bs pre).2.2 = qi) := by unfold Hid; rw [hq]
    have hf78 : f ≤ 78 := hf0
    clear hwr hq hrowW
    generalize A.map (·.add (128 * x)) = Ax at *
    generalize chM n x = mx at *
    obtain ⟨x3, xf3⟩ := BlkAt.c1 k3
    obtain ⟨x10, xf10⟩ := BlkAt.c1 k10
    have hz7 : w.heap.size + 7 ≤ W.heap.size := by omega
    gi_wp2
    refine ⟨trivial, hwi.mono ?_⟩
    rintro e2 W2 ⟨rfl, hD2, s2⟩
    have hPD2 := hPD.step hD2 s2 hz7 (by omega)
    have m3 := k3.fr s2.fr (hnb _ (by omega) (by omega))
    have m6 := k6.fr s2.fr (hnb _ (by omega) (by omega))
    have m7 := k7.fr s2.fr (hnb _ (by omega) (by omega))
    have m8 := k8.fr s2.fr (hnb _ (by omega) (by omega))
    have m10 := k10.fr s2.fr (hnb _ (by omega) (by omega))
    have hKp : KeepB (w.heap.size + 4 + 1) (w.heap.size + 4 + 1 + 1) W W2 := ⟨s2.fr.size, s2.fr.block _ (by omega) (hnb _ (by omega) (by omega)), s2.fr.block _ (by omega) (hnb _ (by omega) (by omega))⟩
    have hKf := keeps_dev (B := W0.heap.size) hPD.1 s2
    have hz2 := s2.fr.size
    have hnb2 : ∀ j, w.heap.size ≤ j → j < w.heap.size + 7 → ¬ devB p W2 j := fun j h1 h2 g => (hPD2.2.2 j g).elim (fun g => by have := hdw j g; omega) fun g => by omega
    clear x3 xf3 x10 xf10 hwi s2 hD2 hPD k3 k6 k7 k8 k10 hnb
    have hqi := putQ_idx d f bs pre
    rw [HQI.out] at hqi
    obtain ⟨z, hz⟩ : ∃ z, f + qi = z := ⟨_, rfl⟩
    have hz1 : z ≤ 1000 := by omega
    have hzs : ((f + (qi + 1) : Nat) : Int) = (z : Int) + 1 := by omega
    rw [hz] at m10
    clear hz hqi
    obtain ⟨x10, xf10⟩ := BlkAt.c1 m10
    obtain ⟨x6, xf6⟩ := BlkAt.c1 m6
    obtain ⟨x7, xf7⟩ := BlkAt.c1 m7
    obtain ⟨x8, xf8⟩ := BlkAt.c1 m8
    by_cases he : we = 0
    · subst he
      have g := fr_set1 W2 (w.heap.size + 4) 0 (.int .i64 ((z : Int) + 1))
      have hPD3 := hPD2.set m10 (by decide) (hnb2 _ (by omega) (by omega)) g (by omega)
      have n3 := m3.fr g (by unfold eqB; omega)
      have n6 := m6.fr g (by unfold eqB; omega)
      have n7 := m7.fr g (by unfold eqB; omega)
      have n8 := m8.fr g (by unfold eqB; omega)
      have n10 : BlkAt (W2.setCell ⟨w.heap.size + 4, 0, none⟩ (.int .i64 ((z : Int) + 1))) (w.heap.size + 4) 3 #[.int .i64 ((f + (qi + 1) : Nat) : Int)] := by
        have := m10.set 0 (.int .i64 ((z : Int) + 1))
        rw [hzs]
        simpa using this
      have hKp2 : KeepB (w.heap.size + 4 + 1) (w.heap.size + 4 + 1 + 1) W2 (W2.setCell ⟨w.heap.size + 4, 0, none⟩ (.int .i64 ((z : Int) + 1))) := ⟨g.size, g.block _ (by omega) (by unfold eqB; omega), g.block _ (by omega) (by unfold eqB; omega)⟩
      have hgz := g.size
      have HI : Hid (((((((PutD p w (w.heap.size + 7) (putQ d f bs (pre ++ [x])).1 (W2.setCell ⟨w.heap.size + 4, 0, none⟩ (.int .i64 ((z : Int) + 1))) ∧ BlkAt (W2.setCell ⟨w.heap.size + 4, 0, none⟩ (.int .i64 ((z : Int) + 1))) w.heap.size 29 #[.pointer (some ⟨p, 0, none⟩)]) ∧ BlkAt (W2.setCell ⟨w.heap.size + 4, 0, none⟩ (.int .i64 ((z : Int) + 1))) (w.heap.size + 1) 34 #[.int .u32 0]) ∧ BlkAt (W2.setCell ⟨w.heap.size + 4, 0, none⟩ (.int .i64 ((z : Int) + 1))) (w.heap.size + 1 + 1) 34 #[.int .u32 0]) ∧ BlkAt (W2.setCell ⟨w.heap.size + 4, 0, none⟩ (.int .i64 ((z : Int) + 1))) (w.heap.size + 1 + 1 + 1) 31 #[.int .i64 0]) ∧ BlkAt (W2.setCell ⟨w.heap.size + 4, 0, none⟩ (.int .i64 ((z : Int) + 1))) (w.heap.size + 4) 3 #[.int .i64 (f + (putQ d f bs (pre ++ [x])).2.2 : Nat)]) ∧ ((putQ d f bs (pre ++ [x])).2.1 = 0)) ∧ W0.heap.size ≤ (W2.setCell ⟨w.heap.size + 4, 0, none⟩ (.int .i64 ((z : Int) + 1))).heap.size) := by
        unfold Hid
        rw [HQ.out]
        exact ⟨⟨⟨⟨⟨⟨⟨hPD3, n3⟩, n6⟩, n7⟩, n8⟩, n10⟩, rfl⟩, by omega⟩
      have hKf2 := hKf.trans ((KeepsOthers.setCell W2 ⟨w.heap.size + 4, 0, none⟩ (.int .i64 ((z : Int) + 1))).from W0.heap.size)
      have hKp3 := hKp.t hKp2
      clear hPD3 n3 n6 n7 n8 n10 hKp2 g hgz
      gi_wp2
      exact ⟨hKf2, hKp3, HI.out⟩
    · have t1 : ((we : Int) != 0) = true := by rw [bne_iff_ne]; omega
      have g1 := fr_set1 W2 (w.heap.size + 1) 0 (.int .u32 0)
      have g2 := fr_set1 (W2.setCell ⟨w.heap.size + 1, 0, none⟩ (.int .u32 0)) (w.heap.size + 1 + 1) 0 (.int .u32 0)
      have g3 := fr_set1 ((W2.setCell ⟨w.heap.size + 1, 0, none⟩ (.int .u32 0)).setCell ⟨w.heap.size + 1 + 1, 0, none⟩ (.int .u32 0)) (w.heap.size + 1 + 1 + 1) 0 (.int .i64 we)
      have hPD3 := hPD2.set m6 (by decide) (hnb2 _ (by omega) (by omega)) g1 (by omega)
      have n6 := m6.set 0 (.int .u32 0)
      have n7 := m7.fr g1 (by unfold eqB; omega)
      have n8 := m8.fr g1 (by unfold eqB; omega)
      have hd3 : ∀ j, w.heap.size ≤ j → j < w.heap.size + 7 → ¬ devB p (W2.setCell ⟨w.heap.size + 1, 0, none⟩ (.int .u32 0)) j := fun j h1 h2 g => (hPD3.2.2 j g).elim (fun g => by have := hdw j g; omega) fun g => by omega
      have hPD4 := hPD3.set n7 (by decide) (hd3 _ (by omega) (by omega)) g2 (by omega)
      have hd4 : ∀ j, w.heap.size ≤ j → j < w.heap.size + 7 → ¬ devB p ((W2.setCell ⟨w.heap.size + 1, 0, none⟩ (.int .u32 0)).setCell ⟨w.heap.size + 1 + 1, 0, none⟩ (.int .u32 0)) j := fun j h1 h2 g => (hPD4.2.2 j g).elim (fun g => by have := hdw j g; omega) fun g => by omega
      have hPD5 := hPD4.set (n8.fr g2 (by unfold eqB; omega)) (by decide) (hd4 _ (by omega) (by omega)) g3 (by omega)
      have p6 := (n6.fr g2 (by unfold eqB; omega)).fr g3 (by unfold eqB; omega)
      have p7 := (n7.set 0 (.int .u32 0)).fr g3 (by unfold eqB; omega)
      have p8 := (n8.fr g2 (by unfold eqB; omega)).set 0 (.int .i64 we)
      have HI : Hid ((((PutD p w (w.heap.size + 7) (putQ d f bs (pre ++ [x])).1 (((W2.setCell ⟨w.heap.size + 1, 0, none⟩ (.int .u32 0)).setCell ⟨w.heap.size + 1 + 1, 0, none⟩ (.int .u32 0)).setCell ⟨w.heap.size + 1 + 1 + 1, 0, none⟩ (.int .i64 we)) ∧ BlkAt (((W2.setCell ⟨w.heap.size + 1, 0, none⟩ (.int .u32 0)).setCell ⟨w.heap.size + 1 + 1, 0, none⟩ (.int .u32 0)).setCell ⟨w.heap.size + 1 + 1 + 1, 0, none⟩ (.int .i64 we)) (w.heap.size + 1) 34 #[.int .u32 0]) ∧ BlkAt (((W2.setCell ⟨w.heap.size + 1, 0, none⟩ (.int .u32 0)).setCell ⟨w.heap.size + 1 + 1, 0, none⟩ (.int .u32 0)).setCell ⟨w.heap.size + 1 + 1 + 1, 0, none⟩ (.int .i64 we)) (w.heap.size + 1 + 1) 34 #[.int .u32 0]) ∧ BlkAt (((W2.setCell ⟨w.heap.size + 1, 0, none⟩ (.int .u32 0)).setCell ⟨w.heap.size + 1 + 1, 0, none⟩ (.int .u32 0)).setCell ⟨w.heap.size + 1 + 1 + 1, 0, none⟩ (.int .i64 we)) (w.heap.size + 1 + 1 + 1) 31 #[.int .i64 ((putQ d f bs (pre ++ [x])).2.1 : Nat)]) ∧ (Code.ret = .ret ∧ (putQ d f bs (pre ++ [x])).2.1 ≠ 0)) := by
        unfold Hid
        rw [HQ.out]
        exact ⟨⟨⟨⟨hPD5, by simpa using p6⟩, by simpa using p7⟩, by simpa using p8⟩, rfl, he⟩
      have hKf2 := ((hKf.trans ((KeepsOthers.setCell W2 ⟨w.heap.size + 1, 0, none⟩ (.int .u32 0)).from W0.heap.size)).trans ((KeepsOthers.setCell _ ⟨w.heap.size + 1 + 1, 0, none⟩ (.int .u32 0)).from W0.heap.size)).trans ((KeepsOthers.setCell _ ⟨w.heap.size + 1 + 1 + 1, 0, none⟩ (.int .i64 we)).from W0.heap.size)
      clear hPD3 hPD4 hPD5 n6 n7 n8 p6 p7 p8 g1 g2 g3 hd3 hd4
      gi_wp2
      refine ⟨hKf2, ?_⟩
      have HI2 := HI.out
      exact ⟨HI2.1, rfl, HI2.2.2⟩
  case done =>
    rename_i K0 hK0
    rintro D0 ys W8 hD rfl ⟨⟨⟨⟨⟨⟨⟨hPD, k3⟩, k6⟩, k7⟩, k8⟩, k10⟩, hQ0⟩, hsW⟩ hK
    have HPS2 : Hid (ps = ((putQ d f bs (List.range ((n + 127) / 128))).1, n, crcSum bs, 0)) := by unfold Hid; rw [HPS.out, if_neg (by omega)]
    generalize putQ d f bs (List.range ((n + 127) / 128)) = q at *
    have hdw := fun j (hj : devB p w j) => devB_lt h hj
    have hnb : ∀ j, w.heap.size ≤ j → j < w.heap.size + 7 → ¬ devB p W8 j := fun j h1 h2 g => (hPD.2.2 j g).elim (fun g => by have := hdw j g; omega) fun g => by omega
    have hrow8 : RowAt W8 A (bcells bs) := hrow.fr hPD.2.1 (fun ad e h0 _ => hbB ad e (by rw [bcells_length, hl] at h0; exact h0))
    have hDl := (Array.getElem?_eq_some_iff.1 hK).1
    have hAlt : ∀ a, A = some a → 0 < n → a.block < W8.heap.size := fun a e h0 => by
      subst e; exact hrow8.lt (by rw [bcells_length, hl]; exact h0)
    simp only [Exit.inBlock, Exit.then]
    refine hK0 _ _ ?_
    go_wp2_with fail
    refine (newT_calls W8).mono ?_
    rintro ed w5 ⟨rfl, ht5, f5, hz5⟩
    go_wp2_with fail
    refine (sumT_calls w5 W8.heap.size false A n c bs ht5 (hrow8.fr0 f5) (hid hl) (by omega) (fun a e h0 => by have := hAlt a e h0; omega)).mono ?_
    rintro ed w6 ⟨rfl, -, f6⟩
    have hPD6 : PutD p w (w.heap.size + 7) q.1 w6 := hPD.fresh ((f5.mono fun _ _ g => g.elim).then' f6) (by omega)
    have hz6 := f6.size
    have hzz := f5.size
    have hnb6 : ∀ j, w.heap.size ≤ j → j < w.heap.size + 7 → ¬ devB p w6 j := fun j h1 h2 g => (hPD6.2.2 j g).elim (fun g => by have := hdw j g; omega) fun g => by omega
    have m6 := (k6.fr f5 id).fr f6 (by unfold eqB; omega)
    have m7 := (k7.fr f5 id).fr f6 (by unfold eqB; omega)
    have m8 := (k8.fr f5 id).fr f6 (by unfold eqB; omega)
    have g1 := fr_set1 w6 (w.heap.size + 1) 0 (.int .u32 n)
    have g2 := fr_set1 (w6.setCell ⟨w.heap.size + 1, 0, none⟩ (.int .u32 n)) (w.heap.size + 1 + 1) 0 (.int .u32 (crcSum bs : Nat))
    have g3 := fr_set1 ((w6.setCell ⟨w.heap.size + 1, 0, none⟩ (.int .u32 n)).setCell ⟨w.heap.size + 1 + 1, 0, none⟩ (.int .u32 (crcSum bs : Nat))) (w.heap.size + 1 + 1 + 1) 0 (.int .i64 0)
    have hPD7 := hPD6.set m6 (by decide) (hnb6 _ (by omega) (by omega)) g1 (by omega)
    have n6 := m6.set 0 (.int .u32 n)
    have n7 := m7.fr g1 (by unfold eqB; omega)
    have n8 := m8.fr g1 (by unfold eqB; omega)
    have hd3 : ∀ j, w.heap.size ≤ j → j < w.heap.size + 7 → ¬ devB p (w6.setCell ⟨w.heap.size + 1, 0, none⟩ (.int .u32 n)) j := fun j h1 h2 g => (hPD7.2.2 j g).elim (fun g => by have := hdw j g; omega) fun g => by omega
    have hPD8 := hPD7.set n7 (by decide) (hd3 _ (by omega) (by omega)) g2 (by omega)
    have hd4 : ∀ j, w.heap.size ≤ j → j < w.heap.size + 7 → ¬ devB p ((w6.setCell ⟨w.heap.size + 1, 0, none⟩ (.int .u32 n)).setCell ⟨w.heap.size + 1 + 1, 0, none⟩ (.int .u32 (crcSum bs : Nat))) j := fun j h1 h2 g => (hPD8.2.2 j g).elim (fun g => by have := hdw j g; omega) fun g => by omega
    have hPD9 := hPD8.set (n8.fr g2 (by unfold eqB; omega)) (by decide) (hd4 _ (by omega) (by omega)) g3 (by omega)
    have p6 := (n6.fr g2 (by unfold eqB; omega)).fr g3 (by unfold eqB; omega)
    have p7 := (n7.set 0 (.int .u32 (crcSum bs : Nat))).fr g3 (by unfold eqB; omega)
    have p8 := (n8.fr g2 (by unfold eqB; omega)).set 0 (.int .i64 0)
    have hK9 := (g3.block D0 (by have := g1.size; have := g2.size; omega) (by unfold eqB; omega)).trans ((g2.block D0 (by have := g1.size; omega) (by unfold eqB; omega)).trans ((g1.block D0 (by omega) (by unfold eqB; omega)).trans ((f6.block D0 (by omega) (by unfold eqB; omega)).trans ((f5.block D0 hDl id).trans hK))))
    obtain ⟨x6, xf6⟩ := BlkAt.c1 m6
    obtain ⟨x7, xf7⟩ := BlkAt.c1 m7
    obtain ⟨x8, xf8⟩ := BlkAt.c1 m8
    have hs9 := g3.size
    have hs8 := g2.size
    have hs7 := g1.size
    clear hPD6 hPD7 hPD8 n6 n7 n8 m6 m7 m8 g1 g2 g3 hd3 hd4 hnb6 hnb f6 f5 ht5 hrow8 hAlt k3 k6 k7 k8 k10 hPD
    go_wp2_with fail
    refine ⟨by simp, .inl ⟨_, _, rfl, run_takeDeferred hK9, ?_⟩⟩
    have hg7 := grownBy_putObj' (((w6.setCell ⟨w.heap.size + 1, 0, none⟩ (.int .u32 n)).setCell ⟨w.heap.size + 1 + 1, 0, none⟩ (.int .u32 (crcSum bs : Nat))).setCell ⟨w.heap.size + 1 + 1 + 1, 0, none⟩ (.int .i64 0)) D0 (.deferred none)
    have hz1 := blk_own 0 _ _ _ () _ _ _ p6 hg7 (fun r e => by cases e; exact ⟨Nat.zero_le _, _, hK9, rfl⟩)
    have hz2 := blk_own 0 _ _ _ () _ _ _ p7 hg7 (fun r e => by cases e; exact ⟨Nat.zero_le _, _, hK9, rfl⟩)
    have hz3 := blk_own 0 _ _ _ () _ _ _ p8 hg7 (fun r e => by cases e; exact ⟨Nat.zero_le _, _, hK9, rfl⟩)
    have hPDf := put_own w.heap.size p _ w _ (Nat.le_refl _) () _ _ _ hPD9 hg7 (fun r e => by cases e; exact ⟨by omega, _, hK9, rfl⟩)
    generalize (((w6.setCell ⟨w.heap.size + 1, 0, none⟩ (.int .u32 n)).setCell ⟨w.heap.size + 1 + 1, 0, none⟩ (.int .u32 (crcSum bs : Nat))).setCell ⟨w.heap.size + 1 + 1 + 1, 0, none⟩ (.int .i64 0)).putObj D0 (.deferred none) = Wf at *
    have e1 : Wf.cell? ⟨w.heap.size + 1, 0, none⟩ = some (.int .u32 n) := BlkAt.cell hz1 rfl
    have e2 : Wf.cell? ⟨w.heap.size + 1 + 1, 0, none⟩ = some (.int .u32 (crcSum bs : Nat)) := BlkAt.cell hz2 rfl
    have e3 : Wf.cell? ⟨w.heap.size + 1 + 1 + 1, 0, none⟩ = some (.int .i64 0) := BlkAt.cell hz3 rfl
    have hr := HRES.out
    exact ⟨.tuple #[.int .u32 n, .int .u32 (crcSum bs : Nat), .int .i64 0], by simp [results, hr, go_sem, e1, e2, e3], by rw [HPS2.out]; rfl, by rw [HPS2.out]; exact hPDf.1, hPDf.step0 (by omega)⟩
  case stop =>
    rintro D0 co pre W8 hD ⟨k, hk, rfl⟩ ⟨⟨⟨⟨hPD, k6⟩, k7⟩, k8⟩, rfl, hne⟩ hK9
    have HPS2 : Hid (ps = ((putQ d f bs (List.range (k + 1))).1, 0, 0, (putQ d f bs (List.range (k + 1))).2.1)) := by
      unfold Hid; rw [HPS.out, putQ_stay (by omega) hne, if_pos hne]
    generalize putQ d f bs (List.range (k + 1)) = q at *
    gi_wp2
    refine ⟨by simp, .inl ⟨_, _, rfl, run_takeDeferred hK9, ?_⟩⟩
    have hg7 := grownBy_putObj' W8 D0 (.deferred none)
    have hz1 := blk_own 0 _ _ _ () _ _ _ k6 hg7 (fun r e => by cases e; exact ⟨Nat.zero_le _, _, hK9, rfl⟩)
    have hz2 := blk_own 0 _ _ _ () _ _ _ k7 hg7 (fun r e => by cases e; exact ⟨Nat.zero_le _, _, hK9, rfl⟩)
    have hz3 := blk_own 0 _ _ _ () _ _ _ k8 hg7 (fun r e => by cases e; exact ⟨Nat.zero_le _, _, hK9, rfl⟩)
    have hPDf := put_own w.heap.size p _ w _ (Nat.le_refl _) () _ _ _ hPD hg7 (fun r e => by cases e; exact ⟨by omega, _, hK9, rfl⟩)
    generalize W8.putObj D0 (.deferred none) = Wf at *
    have e1 : Wf.cell? ⟨w.heap.size + 1, 0, none⟩ = some (.int .u32 0) := BlkAt.cell hz1 rfl
    have e2 : Wf.cell? ⟨w.heap.size + 1 + 1, 0, none⟩ = some (.int .u32 0) := BlkAt.cell hz2 rfl
    have e3 : Wf.cell? ⟨w.heap.size + 1 + 1 + 1, 0, none⟩ = some (.int .i64 (q.2.1 : Nat)) := BlkAt.cell hz3 rfl
    have hr := HRES.out
    exact ⟨.tuple #[.int .u32 0, .int .u32 0, .int .i64 (q.2.1 : Nat)], by simp [results, hr, go_sem, e1, e2, e3], by rw [HPS2.out]; rfl, by rw [HPS2.out]; exact hPDf.1, hPDf.step0 (by omega)⟩
end Go.Proofs.Ytnkdlmmdaagonaa
