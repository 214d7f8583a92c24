/- The listed table of marks: what the condition gives the walks; a start that meets it. -/
import Derived.Test.YtmoemnfflbielaaDoorT4
import Derived.Test.YtmoemnfflbielaaDoorRows
import Derived.ProofKit
import Derived.LaidMore
import Derived.OpenShut
import Derived.Stop.Joined
import Derived.Lib.LaidTab
namespace Go.Proofs.YtmoemnfflbielaaDoor
open Go.ChangeShapes Go.WideShapes Go.ChangeAt Go.WideMaps Go.WideElems Go.RowKit Go.Gav

theorem own : ownKnob Tryd.prog.godebug = none := by kernel_rfl
theorem laidOut : laidOutB Tryd.prog = true := by kernel_rfl

/-- A table of texts. -/
def strData {H : Type} (ls : List (List UInt8)) : DataW H := .agg (ls.map fun l => .lit (.string l))

theorem cells_of_strs {H : Type} {enc : TypeId × Value → H} {P : Program} {w : World} {base : Nat} {sp : Nat → Bool} {held : Bool} {fuel : Nat} {t e : TypeId} {n : Nat} {cs : List Value} {ls : List (List UInt8)} {p : List MemPlace}
    (ht : P.underlying t = some (.array n e)) (he : P.underlying e = some .string) (hce : P.cellsOf e = 1) (hct : P.cellsOf t = n)
    (h : DataW.trod enc P w base sp held fuel t cs = some (strData ls, p)) : cs = ls.map fun l => Value.string ⟨l.toArray⟩ := by
  obtain ⟨xs, m, rfl, hx, hlen, hxl, hel⟩ := DataW.trod_array ht h
  rw [hct] at hlen
  have hxs : xs.map (·.1) = ls.map fun l => (DataW.lit (.string l) : DataW H) := by
    have := congrArg Prod.fst hx
    simpa [strData] using this.symm
  have hzl : ls.length = n := by
    have := congrArg List.length hxs
    simp at this
    omega
  apply List.ext_getElem?
  intro i
  by_cases hi : i < n
  · have hf := hel i hi
    rw [hce, Nat.mul_one] at hf
    have hxi : xs[i]? = some xs[i] := List.getElem?_eq_getElem (by omega)
    rw [hxi] at hf
    obtain ⟨s, hc, he2, _⟩ := DataW.trod_string he hf
    have h1 : cs[i]? = some (.string s) := by
      have := congrArg (·[0]?) hc
      simpa [List.getElem?_take, List.getElem?_drop] using this
    have h2 : (xs.map (·.1))[i]? = some (DataW.lit (.string s.data.toList) : DataW H) := by simp [hxi, he2]
    rw [hxs] at h2
    simp only [List.getElem?_map, Option.map_eq_some_iff, DataW.lit.injEq, Lit.string.injEq] at h2
    obtain ⟨l, hl, rfl⟩ := h2
    rw [h1]
    simp [hl]
  · rw [List.getElem?_eq_none (by omega), List.getElem?_eq_none (by simp; omega)]

theorem gMarks : (Rows.tokenScansRow.laid.head?.bind fun x => Tryd.prog.globalNamed x.1) = some 0 := by kernel_rfl
theorem tMarks : (Tryd.prog.globals[0]?).map (·.type) = some 53 := by kernel_rfl

theorem marks_of_laid {W : World} (h : laidMetH Tryd.prog Rows.tokenScansRow.laid W) : MarksAt W := by
  rw [MakeChecks.laidMetH_plain _ _ _ (by kernel_rfl)] at h
  obtain ⟨ps, ⟨g0, t0, cs0, f0, p0, q0, hg0, ht0, hv0, hd0, _, _⟩, _⟩ := h
  have e : some 0 = some g0 := gMarks.symm.trans hg0
  obtain rfl := Option.some.inj e
  obtain rfl := Option.some.inj (tMarks.symm.trans ht0)
  have hcs := cells_of_strs (ls := marksL) Tryd.underlying53 Tryd.underlying9 (by kernel_rfl) (by kernel_rfl) hd0
  intro j v hj
  rw [Nat.zero_add]
  have hc : cs0[j]? = some v := by
    rw [← Array.getElem?_toList, hcs]; exact hj
  rw [World.var?_cell hg0 hv0 j, hc]

/-- The door's own heap meets the condition. -/
theorem door_met (os : Os) (args : Array Value) : laidMetH Tryd.prog Rows.tokenScansRow.laid ((World.doorLaid Tryd.prog 400 os).forCall (fun _ _ => 0) ⟨#[], args, []⟩).memory :=
  laidMetH_of_parts3 (fuel := 8) (laidMet_of_run' 8 (by kernel_rfl) (by kernel_rfl)) (by kernel_rfl) (by kernel_rfl)

end Go.Proofs.YtmoemnfflbielaaDoor
