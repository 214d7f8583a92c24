/- Rows of entries in memory. No statement is proved here. -/
import Derived.Test.YtnhiohgcoifniaaP2
import Derived.Test.YtnhiohgcoifniaaRng
import Derived.Laws.OwnMore
import Derived.Deep.MidRow
namespace Go.Gav
open Go Go.RowKit

/-- Entries, cell by cell. -/
def flat : List En → List Value
  | [] => []
  | e :: l => .int .i64 e.1 :: .int .i64 e.2 :: flat l

theorem flat_length : ∀ l, (flat l).length = l.length * 2
  | [] => rfl
  | e :: l => by simp [flat, flat_length l]; omega
theorem flat_append : ∀ a b, flat (a ++ b) = flat a ++ flat b
  | [], b => rfl
  | e :: a, b => by simp [flat, flat_append a b]
theorem flat_get : ∀ (l : List En) (i : Nat), i < l.length → (flat l)[i * 2]? = some (.int .i64 (atE l i).1) ∧ (flat l)[i * 2 + 1]? = some (.int .i64 (atE l i).2)
  | [], i, h => by simp at h
  | e :: l, 0, _ => by simp [flat, atE]
  | e :: l, i + 1, h => by
    have := flat_get l i (by simpa using h)
    rw [show (i + 1) * 2 = i * 2 + 1 + 1 by omega]
    simpa [flat, atE] using this
theorem flat_set : ∀ (l : List En) (i : Nat) (x : En), flat (l.set i x) = ((flat l).set (i * 2) (.int .i64 x.1)).set (i * 2 + 1) (.int .i64 x.2)
  | [], i, x => rfl
  | e :: l, 0, x => rfl
  | e :: l, i + 1, x => by
    have := flat_set l i x
    rw [show (i + 1) * 2 = i * 2 + 1 + 1 by omega]
    simp only [List.set_cons_succ, flat, this]
theorem flat_take : ∀ (l : List En) (m : Nat), flat (l.take m) = (flat l).take (m * 2)
  | [], m => by simp [flat]
  | e :: l, 0 => by simp [flat]
  | e :: l, m + 1 => by
    rw [show (m + 1) * 2 = m * 2 + 1 + 1 by omega]
    simp [flat, flat_take l m]
theorem flat_one : ∀ (l : List En), ∀ u ∈ flat l, u.oneCell' = true
  | [], u, h => by cases h
  | e :: l, u, h => by
    simp only [flat, List.mem_cons] at h
    rcases h with rfl | rfl | h
    · rfl
    · rfl
    · exact flat_one l u h

/-- A row of entries: nil, or in block lb. -/
def RowE (w : World) (t : TypeId) (lb : Nat) (v : Value) (L : List En) : Prop :=
  (v = .slice none 0 0 ∧ L = []) ∨ ∃ cap cur, v = .slice (some ⟨lb, 0, none⟩) L.length cap ∧ w.heap[lb]? = some (.cells cur t (0, 0)) ∧ L.length ≤ cap ∧ cap ≤ maxLen ∧ cur.size = cap * 2 ∧ cur.toList.take (L.length * 2) = flat L

variable {w w' : World} {t : TypeId} {lb : Nat} {v : Value} {L : List En}

theorem RowE.owns (h : RowE w t lb v L) : w.ownsRow 0 t 2 v L.length (flat L) := by
  refine ⟨flat_length L, ?_⟩
  rcases h with ⟨rfl, rfl⟩ | ⟨cap, cur, rfl, h1, h2, h3, h4, h5⟩
  · exact .inl ⟨rfl, rfl⟩
  · exact .inr ⟨lb, cap, cur, rfl, Nat.zero_le _, h1, h2, h3, h4, h5⟩

theorem RowE.of_owns {g n cap base : Nat} (h : w.ownsRow base t 2 (.slice (some ⟨g, 0, none⟩) n cap) n (flat L)) : RowE w t g (.slice (some ⟨g, 0, none⟩) n cap) L := by
  have hl := h.1
  rw [flat_length] at hl
  obtain rfl : n = L.length := by omega
  rcases h.2 with ⟨hv, _⟩ | ⟨g', cap', cur, hv, _, h1, h2, h3, h4, h5⟩
  · cases hv
  · cases hv
    exact .inr ⟨cap, cur, rfl, h1, h2, h3, h4, h5⟩

theorem RowE.only {S : Nat → Prop} (h : RowE w t lb v L) (ho : Only S w w') (hS : v.ownBlock = some lb → ¬ S lb) : RowE w' t lb v L := by
  rcases h with h | ⟨cap, cur, rfl, h1, h2⟩
  · exact .inl h
  · exact .inr ⟨cap, cur, rfl, ho.keep h1 (hS rfl), h2⟩

theorem RowE.len (h : RowE w t lb v L) : ∃ ao cap, v = .slice ao L.length cap ∧ L.length ≤ cap ∧ (ao = none → cap = 0) := by
  rcases h with ⟨rfl, rfl⟩ | ⟨cap, cur, rfl, h1, h2, _⟩
  · exact ⟨none, 0, rfl, Nat.le_refl _, fun _ => rfl⟩
  · exact ⟨_, cap, rfl, h2, fun h => by cases h⟩

/-- Where there is an entry: the slice, and its cells. -/
theorem RowE.some (h : RowE w t lb v L) (h0 : 0 < L.length) : ∃ cap, v = .slice (some ⟨lb, 0, none⟩) L.length cap ∧ L.length ≤ cap ∧ cap ≤ maxLen ∧ (∀ j, w.frozen? ⟨lb, j, none⟩ = false) ∧ lb < w.heap.size ∧
    ∀ i, i < L.length → w.cell? ⟨lb, i * 2, none⟩ = .some (.int .i64 (atE L i).1) ∧ w.cell? ⟨lb, i * 2 + 1, none⟩ = .some (.int .i64 (atE L i).2) := by
  rcases h with ⟨rfl, rfl⟩ | ⟨cap, cur, rfl, h1, h2, h3, h4, h5⟩
  · simp at h0
  · refine ⟨cap, rfl, h2, h3, fun j => free_of_row h1, lt_of_block h1, fun i hi => ?_⟩
    obtain ⟨e1, e2⟩ := flat_get L i hi
    rw [← h5, List.getElem?_take, if_pos (by omega)] at e1
    rw [← h5, List.getElem?_take, if_pos (by omega)] at e2
    exact ⟨by rw [cell_of_row w _ _ _ _ _ h1, ← Array.getElem?_toList, e1], by rw [cell_of_row w _ _ _ _ _ h1, ← Array.getElem?_toList, e2]⟩

theorem RowE.set (h : RowE w t lb v L) {i : Nat} (hi : i < L.length) (x : En) : RowE ((w.setCell ⟨lb, i * 2, none⟩ (.int .i64 x.1)).setCell ⟨lb, i * 2 + 1, none⟩ (.int .i64 x.2)) t lb v (L.set i x) := by
  rcases h with ⟨rfl, rfl⟩ | ⟨cap, cur, rfl, h1, h2, h3, h4, h5⟩
  · simp at hi
  · refine .inr ⟨cap, (cur.setIfInBounds (i * 2) (.int .i64 x.1)).setIfInBounds (i * 2 + 1) (.int .i64 x.2), by simp, hp_same (hp_same h1 _) _, by simpa using h2, h3, by simpa using h4, ?_⟩
    rw [flat_set, ← h5]
    simp only [Array.toList_setIfInBounds, List.length_set, List.take_set]

theorem RowE.take {ao : Option Addr} {n cap m : Nat} (h : RowE w t lb (.slice ao n cap) L) (hm : m ≤ L.length) : RowE w t lb (.slice ao m cap) (L.take m) := by
  have hl : (L.take m).length = m := by rw [List.length_take]; omega
  rcases h with ⟨hv, rfl⟩ | ⟨cap', cur, hv, h1, h2, h3, h4, h5⟩
  · cases hv
    left
    have : m = 0 := by simpa using hm
    subst this
    exact ⟨rfl, by simp⟩
  · cases hv
    refine .inr ⟨cap, cur, by rw [hl], h1, by omega, h3, h4, ?_⟩
    rw [hl, flat_take, ← h5, List.take_take]
    congr 1
    omega

/-- An entry is stored into a row. -/
theorem wpList_store_en {P : Program} {ops : Array Oper} {rest : List Oper} {op : Oper} {a : Act} {w : World} {Q : Exit → Act → World → Prop} (hgd : op.guard = none) (ty : TypeId) (x y : Operand) (ho : op.op = .store ty x y)
    (hinf : (P.info? ty).map (·.size) = Option.some 2) (t : TypeId) (b i : Nat) (v : Value) (L : List En) (hr : RowE w t b v L) (hi : i < L.length) (e : En) (hx : a.eval x = .pointer (Option.some ⟨b, i * 2, none⟩)) (hy : a.eval y = .agg #[.int .i64 e.1, .int .i64 e.2])
    (h : ∀ w', RowE w' t b v (L.set i e) → Only (fun k => k = b) w w' → wpList P ops Q rest (a.put op.dst undef) w') : wpList P ops Q (op :: rest) a w := by
  obtain ⟨cap, -, -, -, hf, -, hc⟩ := hr.some (by omega)
  obtain ⟨c1, c2⟩ := hc i hi
  refine wpList_store_mid hgd ty x y ho b (i * 2) #[.int .i64 e.1, .int .i64 e.2] hx hy ?_ (by simpa using hinf) (by simp [Value.oneCell']) ?_
  · intro j hj
    have : j = 0 ∨ j = 1 := by simp at hj; omega
    rcases this with rfl | rfl
    · exact ⟨by rw [Nat.add_zero, c1]; rfl, hf _⟩
    · exact ⟨by rw [c2]; rfl, hf _⟩
  · have e2 : w.setCells b (i * 2) #[Value.int .i64 e.1, Value.int .i64 e.2].toList = (w.setCell ⟨b, i * 2, none⟩ (.int .i64 e.1)).setCell ⟨b, i * 2 + 1, none⟩ (.int .i64 e.2) := rfl
    rw [e2]
    exact h _ (hr.set hi e) (Only.setAt (Only.setAt (Only.refl (fun k => k = b) w) (i * 2) _) (i * 2 + 1) _)

end Go.Gav
