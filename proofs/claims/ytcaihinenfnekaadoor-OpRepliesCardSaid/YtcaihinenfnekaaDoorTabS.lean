/- Package-level tables of texts: what a row's list gives, and how it goes on. -/
import Derived.Test.YtcaihinenfnekaaDoorConv
import Derived.Lib.LaidTab
import Derived.LaidSub
namespace Go.Proofs.YtcaihinenfnekaaDoor
open Go.RowKit

/-- An array of texts that reads as these bytes holds these texts, cell for cell. -/
theorem cells_of_strs {H : Type} {enc : TypeId × Value → H} {P : Program} {w : World} {base : Nat} {sp : Nat → Bool} {held : Bool} {fuel : Nat} {t e : TypeId} {n : Nat} {cs : List Value} {zs : List (List UInt8)} {p : List MemPlace}
    (ht : P.underlying t = some (.array n e)) (he : P.underlying e = some .string) (hce : P.cellsOf e = 1) (hct : P.cellsOf t = n)
    (h : DataW.trod enc P w base sp held fuel t cs = some (.agg (zs.map fun z => .lit (.string z)), p)) : cs = zs.map fun z => Value.string (mkS z) := by
  cases fuel with
  | zero => simp [DataW.trod] at h
  | succ fuel =>
    simp only [DataW.trod, ht, hce, hct, Nat.mul_one] at h
    split at h
    · rename_i hl
      obtain ⟨xs, hm, hx⟩ := Option.map_eq_some_iff.1 h
      have hxs : xs.map (·.1) = zs.map fun z => (DataW.lit (.string z) : DataW H) := by
        have := congrArg Prod.fst hx
        simpa using this
      have hxl : xs.length = n := by simpa using Lib.mapM_length hm
      have hzl : zs.length = n := by
        have := congrArg List.length hxs
        simp at this
        omega
      apply List.ext_getElem?
      intro i
      by_cases hi : i < n
      · obtain ⟨b, hb, hf⟩ := Lib.mapM_at hm i i (by simp [hi])
        obtain ⟨s, hc, rfl, _⟩ := DataW.trod_string he hf
        have h1 : cs[i]? = some (.string s) := by
          have := congrArg (·[0]?) hc
          simpa [List.getElem?_take, List.getElem?_drop] using this
        have h2 : (xs.map (·.1))[i]? = some (DataW.lit (.string s.data.toList) : DataW H) := by simp [hb]
        rw [hxs] at h2
        simp only [List.getElem?_map, Option.map_eq_some_iff, DataW.lit.injEq, Lit.string.injEq] at h2
        obtain ⟨z', hz', rfl⟩ := h2
        simp [h1, hz', mkS_of]
      · rw [List.getElem?_eq_none (by omega), List.getElem?_eq_none (by simp; omega)]
    · cases h
/-- The variable's cells are these texts. -/
def TabS (P : Program) (w : World) (g : Nat) (zs : List (List UInt8)) : Prop := ∀ (i : Nat) (z : List UInt8), zs[i]? = some z → w.cell? ⟨g, i, none⟩ = some (.string (mkS z))
theorem tabS_of {P : Program} {w : World} {name : String} {g : Nat} {t e : TypeId} {n : Nat} {zs : List (List UInt8)} {g' : Nat} {t' : TypeId} {cs : Array Value} {fuel : Nat} {p : List MemPlace}
    (hg : P.globalNamed name = some g) (hty : (P.globals[g]?).map (·.type) = some t) (ht : P.underlying t = some (.array n e)) (he : P.underlying e = some .string) (hce : P.cellsOf e = 1) (hct : P.cellsOf t = n)
    (hg' : P.globalNamed name = some g') (ht' : (P.globals[g']?).map (·.type) = some t') (hvar : w.var? P name = some cs) (hd : DataW.trod (fun _ => ()) P w 0 (fun _ => true) false fuel t' cs.toList = some (.agg (zs.map fun z => .lit (.string z)), p)) : TabS P w g zs := by
  obtain rfl := Option.some.inj (hg.symm.trans hg')
  obtain rfl := Option.some.inj (hty.symm.trans ht')
  have hcs := cells_of_strs ht he hce hct hd
  intro i z hz
  have := World.var?_cell hg hvar i
  rw [this, ← Array.getElem?_toList, hcs, List.getElem?_map, hz]
  rfl
/-- The two lists' heads. -/
theorem tabS_one {P : Program} {w : World} {name : String} {g : Nat} {t e : TypeId} {n : Nat} {zs : List (List UInt8)} {rest : List (String × DataW Unit)}
    (hg : P.globalNamed name = some g) (hty : (P.globals[g]?).map (·.type) = some t) (ht : P.underlying t = some (.array n e)) (he : P.underlying e = some .string) (hce : P.cellsOf e = 1) (hct : P.cellsOf t = n)
    (h : laidMet P ((name, .agg (zs.map fun z => .lit (.string z))) :: rest) w) : TabS P w g zs := by
  obtain ⟨ps, ⟨g', t', cs, fuel, p, q, hg', ht', hvar, hd, _, _⟩, _⟩ := h
  exact tabS_of hg hty ht he hce hct hg' ht' hvar hd
theorem tabS_two {P : Program} {w : World} {name name0 : String} {d0 : DataW Unit} {g : Nat} {t e : TypeId} {n : Nat} {zs : List (List UInt8)} {rest : List (String × DataW Unit)}
    (hg : P.globalNamed name = some g) (hty : (P.globals[g]?).map (·.type) = some t) (ht : P.underlying t = some (.array n e)) (he : P.underlying e = some .string) (hce : P.cellsOf e = 1) (hct : P.cellsOf t = n)
    (h : laidMet P ((name0, d0) :: (name, .agg (zs.map fun z => .lit (.string z))) :: rest) w) : TabS P w g zs := by
  obtain ⟨ps, ⟨_, _, _, _, _, _, _, _, _, _, ⟨g', t', cs, fuel, p, q, hg', ht', hvar, hd, _, _⟩, _⟩, _⟩ := h
  exact tabS_of hg hty ht he hce hct hg' ht' hvar hd
theorem TabS.fr {P : Program} {S : Nat → Prop} {w w' : World} {g : Nat} {zs : List (List UInt8)} (h : TabS P w g zs) (f : Fr S w w') (hS : ¬ S g) : TabS P w' g zs := fun i z hz => f.cell (h i z hz) hS
theorem TabS.fr0 {P : Program} {w w' : World} {g : Nat} {zs : List (List UInt8)} (h : TabS P w g zs) (f : Fr noB w w') : TabS P w' g zs := h.fr f id
theorem cell_lt {w : World} {a : Addr} {v : Value} (h : w.cell? a = some v) : a.block < w.heap.size := by
  unfold World.cell? at h
  split at h <;> simp_all
  rename_i h1
  exact (Array.getElem?_eq_some_iff.1 h1).1
theorem TabS.lt {P : Program} {w : World} {g : Nat} {z : List UInt8} {zs : List (List UInt8)} (h : TabS P w g (z :: zs)) : g < w.heap.size := cell_lt (h 0 z rfl)
def namesL : List (List UInt8) := [[99, 114, 101, 97, 116, 101], [100, 101, 108, 101, 116, 101], [115, 101, 116, 104, 97, 115, 104], [108, 111, 111, 107, 117, 112], [108, 105, 115, 116], [115, 101, 116, 109, 97, 105, 108], [100, 105, 115, 97, 98, 108, 101], [101, 110, 97, 98, 108, 101], [114, 101, 110, 97, 109, 101], [109, 97, 107, 101], [100, 114, 111, 112], [106, 111, 105, 110], [108, 101, 97, 118, 101], [102, 105, 110, 100], [109, 101, 109, 98, 101, 114, 115], [117, 112, 103, 114, 97, 100, 101], [97, 100, 118, 101, 114, 116, 105, 115, 101]]
def signsL : List (List UInt8) := [[97, 98], [97], [97, 98], [97], [97], [97, 98], [97], [97], [97, 98], [97], [97], [97, 98], [97, 98], [97], [97], [], [110, 114]]
abbrev NamesAt (w : World) : Prop := TabS Tryd.prog w 0 namesL
abbrev SignsAt (w : World) : Prop := TabS Tryd.prog w 1 signsL
end Go.Proofs.YtcaihinenfnekaaDoor
