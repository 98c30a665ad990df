/- Results that lie in blocks, loaded whole. -/
import Derived.Test.YtnkdlmmdaagonaaBlk
import Derived.Deep.MidRow
namespace Go.Proofs.Ytnkdlmmdaagonaa
open Go.RowKit
theorem load_blk {P : Program} {w : World} {b : Nat} {T : TypeId} {C : Array Value} {d : TypeDesc} (h : BlkAt w b T C) (hu : P.underlying T = some d) (hd : d.isRow = true) (hi : (P.info? T).map (·.size) = some C.size) :
    (loadVar T ⟨b, 0, none⟩).run P w = .ok (.agg C) w :=
  run_loadVar_mid w b 0 T C.toList d (fun j v hv => by rw [Nat.zero_add]; exact h.cell (by simpa using hv)) hu hd (by simpa using hi)
theorem results_cell1 {P : Program} {fn : Func} {tmps : Array Value} {w : World} {k : Tmp} {T : TypeId} {b : Nat} {v : Value} (hr : fn.results = #[.cell k T]) (ht : tmps.getD k undef = .pointer (some ⟨b, 0, none⟩)) (hl : (loadVar T ⟨b, 0, none⟩).run P w = .ok v w) :
    (results fn tmps).run P w = .ok v w := by
  have ht' : tmps[k]?.getD undef = .pointer (some ⟨b, 0, none⟩) := by simpa using ht
  unfold results
  rw [hr]
  generalize loadVar = ld at hl ⊢
  simp [go_sem, ht', hl]
theorem results_cell2 {P : Program} {fn : Func} {tmps : Array Value} {w : World} {k m : Tmp} {T : TypeId} {b : Nat} {v u : Value} (hr : fn.results = #[.cell k T, .tmp m]) (ht : tmps.getD k undef = .pointer (some ⟨b, 0, none⟩)) (hl : (loadVar T ⟨b, 0, none⟩).run P w = .ok v w) (hu : tmps.getD m undef = u) :
    (results fn tmps).run P w = .ok (.tuple #[v, u]) w := by
  have ht' : tmps[k]?.getD undef = .pointer (some ⟨b, 0, none⟩) := by simpa using ht
  have hu' : tmps[m]?.getD undef = u := by simpa using hu
  unfold results
  rw [hr]
  generalize loadVar = ld at hl ⊢
  simp [go_sem, ht', hl, hu']
/-! ### Whole stores and loads, the world behind them left abstract -/
theorem BlkAt.setCells {p : Nat} {T : TypeId} : ∀ (vs : List Value) (k : Nat) (w : World) (C : List Value), BlkAt w p T C.toArray → k + vs.length ≤ C.length → BlkAt (w.setCells p k vs) p T (C.take k ++ vs ++ C.drop (k + vs.length)).toArray
  | [], k, w, C, h, _ => by simpa [World.setCells] using h
  | v :: vs, k, w, C, h, hk => by
    have h1 := h.set k v
    rw [List.setIfInBounds_toArray] at h1
    have := BlkAt.setCells vs (k + 1) _ _ h1 (by simp only [List.length_set, List.length_cons] at hk ⊢; omega)
    have e : (C.set k v).take (k + 1) ++ vs ++ (C.set k v).drop (k + 1 + vs.length) = C.take k ++ (v :: vs) ++ C.drop (k + (v :: vs).length) := by
      simp only [List.length_cons] at hk ⊢
      rw [List.drop_set_of_lt (by omega), List.take_succ_eq_append_getElem (by simp only [List.length_set]; omega), List.take_set_of_le (by omega)]
      simp [show k + 1 + vs.length = k + (vs.length + 1) from by omega]
    rw [e] at this
    exact this
theorem fr_setCellsB (b : Nat) : ∀ (vs : List Value) (o : Nat) (w : World), Fr (eqB b) w (w.setCells b o vs)
  | [], _, w => Fr.refl _ w
  | v :: vs, o, w => (fr_set1 w b o v).then' (fr_setCellsB b vs (o + 1) _)
theorem BlkAt.there {w : World} {b o n : Nat} {T : TypeId} {C : Array Value} (h : BlkAt w b T C) (hn : o + n ≤ C.size) : w.there b o n := fun j hj => by
  refine ⟨?_, h.free _⟩
  rw [h.cell (v := C[o + j]'(by omega)) (Array.getElem?_eq_getElem (by omega))]; rfl
theorem BlkAt.range {w : World} {b : Nat} {T : TypeId} {C : List Value} (h : BlkAt w b T C.toArray) (o : Nat) {cs : List Value} (hc : (C.drop o).take cs.length = cs) : w.rangeAt b o cs := fun j v hv => by
  refine h.cell ?_
  rw [List.getElem?_toArray, ← List.getElem?_drop]
  have hj := (List.getElem?_eq_some_iff.1 hv).1
  rw [← hc, List.getElem?_take_of_lt hj] at hv
  exact hv
section
variable {P : Program} {op : Oper} {a : Act} {w : World} {Q : Exit → Act → World → Prop} {T TB : TypeId} {x y : Operand} {b : Nat}
/-- A struct is stored into a block, at o: D is what lies there then. -/
theorem wp_store_blk {K : Act → World → Prop} (ho : op.op = .store T x y) {C vs D : List Value} (hb : BlkAt w b TB C.toArray) (o : Nat) (hx : a.eval x = .pointer (some ⟨b, o, none⟩)) (hy : a.eval y = .agg vs.toArray)
    (hi : (P.info? T).map (·.size) = some vs.length) (h1 : vs.all (·.oneCell') = true) (ho2 : o + vs.length ≤ C.length) (hD : C.take o ++ vs ++ C.drop (o + vs.length) = D)
    (h : ∀ w', Fr (eqB b) w w' → BlkAt w' b TB D.toArray → K (a.put op.dst undef) w') : op.wp P a w K Q := by
  refine wp_store_mid T x y ho b o vs.toArray hx hy (hb.there (by simpa using ho2)) (by simpa using hi) (by simpa using h1) ?_
  refine h _ (fr_setCellsB b _ o w) ?_
  have := BlkAt.setCells vs o w C hb ho2
  rw [hD] at this
  simpa using this
theorem wpList_store_blk {ops : Array Oper} {rest : List Oper} (hgd : op.guard = none) (ho : op.op = .store T x y) {C vs D : List Value} (hb : BlkAt w b TB C.toArray) (o : Nat) (hx : a.eval x = .pointer (some ⟨b, o, none⟩)) (hy : a.eval y = .agg vs.toArray)
    (hi : (P.info? T).map (·.size) = some vs.length) (h1 : vs.all (·.oneCell') = true) (ho2 : o + vs.length ≤ C.length) (hD : C.take o ++ vs ++ C.drop (o + vs.length) = D)
    (h : ∀ w', Fr (eqB b) w w' → BlkAt w' b TB D.toArray → wpList P ops Q rest (a.put op.dst undef) w') : wpList P ops Q (op :: rest) a w :=
  wpList_plain hgd fun _ hK => wp_store_blk ho hb o hx hy hi h1 ho2 hD fun w' f hb' => hK _ _ (h w' f hb')
theorem wp_load_blk {K : Act → World → Prop} {d : TypeDesc} (ho : op.op = .load T x) {C cs : List Value} (hb : BlkAt w b TB C.toArray) (o : Nat) (hx : a.eval x = .pointer (some ⟨b, o, none⟩)) (hc : (C.drop o).take cs.length = cs)
    (hu : P.underlying T = some d) (hd : d.isRow = true) (hi : (P.info? T).map (·.size) = some cs.length) (h : K (a.put op.dst (.agg cs.toArray)) w) : op.wp P a w K Q :=
  wp_load_mid T x ho b o hx cs d (hb.range o hc) hu hd hi h
theorem wpList_load_blk {ops : Array Oper} {rest : List Oper} {d : TypeDesc} (hgd : op.guard = none) (ho : op.op = .load T x) {C cs : List Value} (hb : BlkAt w b TB C.toArray) (o : Nat) (hx : a.eval x = .pointer (some ⟨b, o, none⟩)) (hc : (C.drop o).take cs.length = cs)
    (hu : P.underlying T = some d) (hd : d.isRow = true) (hi : (P.info? T).map (·.size) = some cs.length) (h : wpList P ops Q rest (a.put op.dst (.agg cs.toArray)) w) : wpList P ops Q (op :: rest) a w :=
  wpList_plain hgd fun _ hK => wp_load_blk ho hb o hx hc hu hd hi (hK _ _ h)
end
end Go.Proofs.Ytnkdlmmdaagonaa
