/- A map entry that is there: found, then stored. No statement is proved here. -/
import Derived.Test.YtnhiohgcoifniaaBase
import Derived.Maps.OwnSet
import Derived.WideKeyEntry
namespace Go.Gav
open Go Go.ChangeMaps Go.MapKept Go.RowKit
open Go.WideElems (Fit rd rg pl rd_val elemAt findIdx_born findIdx_arr)
open Go.Maps (Keyed)

section
variable {H : Type} {P : Program} {w : World} {t k e : TypeId} {R : Value → Option (DataW H × List MemPlace)} {b n : Nat} {D : DataW H}

theorem same_block {w : World} {b : Nat} {o : Obj} (h : w.heap[b]? = some o) : ({ w with heap := w.heap.setIfInBounds b o } : World) = w := by
  have : w.heap.setIfInBounds b o = w.heap := by
    apply Array.ext
    · simp
    · intro i h1 h2
      rw [Array.getElem_setIfInBounds]
      split
      · rename_i hi
        subst hi
        have := (Array.getElem?_eq_some_iff.1 h).2
        exact this.symm
      · rfl
  rw [this]

theorem modify_same {es : Array MapEntry} {j : Nat} {f : MapEntry → MapEntry} {x : MapEntry} (h : es[j]? = some x) (hf : f x = x) : es.modify j f = es := by
  apply Array.ext
  · simp
  · intro i h1 h2
    rw [Array.getElem_modify]
    split
    · rename_i hi
      subst hi
      have := (Array.getElem?_eq_some_iff.1 h).2
      rw [this]; exact hf
    · rfl

theorem modify_alike {es : Array MapEntry} {j : Nat} {f g : MapEntry → MapEntry} {x : MapEntry} (h : es[j]? = some x) (hf : f x = g x) : es.modify j f = es.modify j g := by
  apply Array.ext
  · simp
  · intro i h1 h2
    rw [Array.getElem_modify, Array.getElem_modify]
    split
    · rename_i hi
      subst hi
      have := (Array.getElem?_eq_some_iff.1 h).2
      rw [this]; exact hf
    · rfl

/-- 'm[k]', about to be stored, where the key is there: a stamp; the map is as it was; a store by that stamp is a store by the key. -/
theorem entry_there (h : w.ownsMap P k R b n D) (K : Keyed P k) (ht : P.underlying t = some (.map k e)) {z : Value} (hz : (zeroValue e).run P w = .ok z w) (hn : n < maxLen) {key : Value} {kl : Lit} (hkey : keyOf P k key = some kl) (hhas : Maps.has D kl = true) :
    ∃ (v0 : Value) (st : Nat), (Instr.mapEntry t (.map (some b)) key).run P w = .ok (.tuple #[v0, goInt st]) w ∧
      ∀ (val : Value) (d : DataW H) (ps : List MemPlace), R val = some (d, ps) → ∃ w', (Instr.entryStore t (.map (some b)) (goInt st) val).run P w = .ok () w' ∧ w'.ownsMap P k R b (n + 1) (D.put kl d) ∧ w.mapTurned w' b := by
  obtain ⟨es, clock, hb, F, hs, hD⟩ := id h
  obtain ⟨s1, s2, _⟩ := F.stamped
  have hkeys := F.keys
  rcases K.find w hkey es.toList hkeys with ⟨h1, h2⟩ | ⟨j, e0, h1, h2, h3⟩
  · exfalso
    rcases Maps.fit_look true K ht hz hb F hkey with ⟨_, _, hat⟩ | ⟨e1, y, hm, he, _⟩
    · rw [hD, Maps.has_false_of_atKey hat] at hhas; cases hhas
    · exact h2 e1 hm he
  · have hj : es[j]? = some e0 := by simpa using h2
    refine ⟨e0.val, e0.born, ?_, fun val d ps hv => ?_⟩
    · have hm : es.modify j (fun x => { x with key := key }) = es := modify_same hj (by rw [← h3])
      simp [Instr.mapEntry, run_underlying ht, MapKept.run_getObj_map hb, K.check w false hkey, h1, hj, h3, K.stays w hkey, hm, MapKept.run_setObj_map _ hb, Result.andThen, same_block hb]
    · obtain ⟨w', hrun, r1, r2⟩ := h.store K ht hn hkey hv
      have hu : (Instr.mapUpdate t (.map (some b)) key val).run P w = .ok () { w with heap := w.heap.setIfInBounds b (.map (es.modify j fun x => { x with key := key, val := val }) clock) } := by
        simp [Instr.mapUpdate, run_underlying ht, MapKept.run_getObj_map hb, K.check w false hkey, h1, hj, h3, K.stays w hkey, MapKept.run_setObj_map _ hb, Result.andThen]
      rw [hu] at hrun
      cases hrun
      refine ⟨_, ?_, r1, r2⟩
      have hidx : es.findIdx? (fun x => ((x.born : Nat) : Int) == ((e0.born : Nat) : Int)) = some j := by rw [findIdx_arr]; exact findIdx_born s2 h2
      have hm : es.modify j (fun x => { x with val := val }) = es.modify j (fun x => { x with key := key, val := val }) := modify_alike hj (by rw [← h3])
      simp [Instr.entryStore, MapKept.run_getObj_map hb, asInt, asIntOf, goInt, hidx, hm, MapKept.run_setObj_map _ hb, Result.andThen]

/-- The bound of a map, as sharp as it can be. -/
theorem ownsMap_tight (h : w.ownsMap P k R b n D) : w.ownsMap P k R b (Maps.size D) D := by
  obtain ⟨es, clock, hb, F, hs, rfl⟩ := h
  exact ⟨es, clock, hb, F, by simp [Maps.size, length_sorted], rfl⟩

end
end Go.Gav
