/- Rows of links in memory. No statement is proved here. -/
import Derived.Test.YtflcdbefakjcbaaN2
import Derived.Test.YtflcdbefakjcbaaRngU
import Derived.Test.YtflcdbefakjcbaaA1
import Derived.Laws.OwnMore
import Derived.Deep.MidRow
namespace Go.Proofs.Ytflcdbefakjcbaa
open Go.RowKit Go.Gav Go.BigFrame

def atE (l : List En) (i : Nat) : En := l.getD i (0, 0)
theorem atE_get (l : List En) (i : Nat) (h : i < l.length) : atE l i = l[i] := by simp [atE, h]

theorem two_cells {w : World} {g : Nat} {a b : Value} {t : TypeId} (h : w.heap[g]? = some (.cells #[a, b] t (0, 0))) : w.cell? ⟨g, 0, none⟩ = some a ∧ w.cell? ⟨g, 1, none⟩ = some b :=
  ⟨by rw [cell_of_row w _ _ _ _ _ h]; rfl, by rw [cell_of_row w _ _ _ _ _ h]; rfl⟩

/-- Entries, cell by cell. -/
def flat : List En → List Value
  | [] => []
  | e :: l => .int .i64 e.1 :: .int .i64 e.2 :: flat l

theorem flat_length : ∀ l, (flat l).length = l.length * 2
  | [] => rfl
  | e :: l => by simp [flat, flat_length l]; omega
theorem flat_append : ∀ a b, flat (a ++ b) = flat a ++ flat b
  | [], b => rfl
  | e :: a, b => by simp [flat, flat_append a b]
theorem flat_get : ∀ (l : List En) (i : Nat), i < l.length → (flat l)[i * 2]? = some (.int .i64 (atE l i).1) ∧ (flat l)[i * 2 + 1]? = some (.int .i64 (atE l i).2)
  | [], i, h => by simp at h
  | e :: l, 0, _ => by simp [flat, atE]
  | e :: l, i + 1, h => by
    have := flat_get l i (by simpa using h)
    rw [show (i + 1) * 2 = i * 2 + 1 + 1 by omega]
    simpa [flat, atE] using this
theorem flat_set : ∀ (l : List En) (i : Nat) (x : En), flat (l.set i x) = ((flat l).set (i * 2) (.int .i64 x.1)).set (i * 2 + 1) (.int .i64 x.2)
  | [], i, x => rfl
  | e :: l, 0, x => rfl
  | e :: l, i + 1, x => by
    have := flat_set l i x
    rw [show (i + 1) * 2 = i * 2 + 1 + 1 by omega]
    simp only [List.set_cons_succ, flat, this]
theorem flat_take : ∀ (l : List En) (m : Nat), flat (l.take m) = (flat l).take (m * 2)
  | [], m => by simp [flat]
  | e :: l, 0 => by simp [flat]
  | e :: l, m + 1 => by
    rw [show (m + 1) * 2 = m * 2 + 1 + 1 by omega]
    simp [flat, flat_take l m]
theorem flat_one : ∀ (l : List En), ∀ u ∈ flat l, u.oneCell' = true
  | [], u, h => by cases h
  | e :: l, u, h => by
    simp only [flat, List.mem_cons] at h
    rcases h with rfl | rfl | h
    · rfl
    · rfl
    · exact flat_one l u h

/-- A slice's cells read as entries. -/
def CellsE (w : World) (ao : Option Addr) (L : List En) : Prop :=
  0 < L.length → ∃ g, ao = some ⟨g, 0, none⟩ ∧ ∀ i, i < L.length → w.cell? ⟨g, i * 2, none⟩ = some (.int .i64 (atE L i).1) ∧ w.cell? ⟨g, i * 2 + 1, none⟩ = some (.int .i64 (atE L i).2)

theorem CellsE.only {S : Nat → Prop} {w w' : World} {ao : Option Addr} {L : List En} (h : CellsE w ao L) (ho : Only S w w') (hS : ∀ g, ao = some ⟨g, 0, none⟩ → ¬ S g) : CellsE w' ao L := by
  intro h0
  obtain ⟨g, e, hc⟩ := h h0
  exact ⟨g, e, fun i hi => ⟨ho.cell (hc i hi).1 (hS g e), ho.cell (hc i hi).2 (hS g e)⟩⟩

theorem CellsE.keptT {T : Nat → Prop} {w w' : World} {ao : Option Addr} {L : List En} (h : CellsE w ao L) (ho : KeptT T w w') (hS : ∀ g, ao = some ⟨g, 0, none⟩ → T g) : CellsE w' ao L := by
  intro h0
  obtain ⟨g, e, hc⟩ := h h0
  exact ⟨g, e, fun i hi => ⟨(World.cell?_of_block (ho _ (hS g e))).trans (hc i hi).1, (World.cell?_of_block (ho _ (hS g e))).trans (hc i hi).2⟩⟩

theorem owns_cells {w : World} {B : Nat} {v : Value} {L : List En} (h : w.ownsRow B 62 2 v L.length (flat L)) : ∃ ao cap, v = .slice ao L.length cap ∧ CellsE w ao L ∧ ∀ k, ao = some ⟨k, 0, none⟩ → B ≤ k ∧ k < w.heap.size := by
  rcases h.2 with ⟨hv, hn⟩ | ⟨g, cap, cur, hv, hb, hg, hnc, hcm, hcs, ht⟩
  · refine ⟨none, 0, by rw [hv, hn], fun h => by omega, fun k hk => by cases hk⟩
  · refine ⟨some ⟨g, 0, none⟩, cap, hv, fun _ => ⟨g, rfl, fun i hi => ?_⟩, fun k hk => by cases hk; exact ⟨hb, lt_of_block hg⟩⟩
    have hq : ∀ j, j < L.length * 2 → cur[j]? = (flat L)[j]? := fun j hj => by
      rw [← ht, List.getElem?_take_of_lt hj, Array.getElem?_toList]
    have := flat_get L i hi
    rw [cell_of_row w g (i * 2) _ _ _ hg, hq (i * 2) (by omega), cell_of_row w g (i * 2 + 1) _ _ _ hg, hq (i * 2 + 1) (by omega)]
    exact this

theorem CellsE.kept {A B : Nat} {w w' : World} {ao : Option Addr} {L : List En} (h : CellsE w ao L) (ho : Kept A B w w') (hS : ∀ g, ao = some ⟨g, 0, none⟩ → A ≤ g ∧ g < B) : CellsE w' ao L := by
  intro h0
  obtain ⟨g, e, hc⟩ := h h0
  have hb := hS g e
  exact ⟨g, e, fun i hi => ⟨(World.cell?_of_block (ho _ hb.1 hb.2)).trans (hc i hi).1, (World.cell?_of_block (ho _ hb.1 hb.2)).trans (hc i hi).2⟩⟩

/-- What a round is handed: an entry. -/
def encE (x : En) : Array Value := #[.agg #[.int .i64 x.1, .int .i64 x.2]]


theorem new_two2 (w : World) (a b : Value) (t : TypeId) : ∀ j u, [a, b][j]? = some u → (w.alloc (.cells #[a, b] t)).cell? ((⟨w.heap.size, 0, none⟩ : Addr).add j) = some u := by
  intro j u hj
  have hk := heap_alloc_new w (.cells #[a, b] t)
  match j, hj with
  | 0, hj => simp at hj; subst hj; rw [show (⟨w.heap.size, 0, none⟩ : Addr).add 0 = ⟨w.heap.size, 0, none⟩ from rfl, cell_of_row _ _ _ _ _ _ hk]; rfl
  | 1, hj => simp at hj; subst hj; rw [show (⟨w.heap.size, 0, none⟩ : Addr).add 1 = ⟨w.heap.size, 1, none⟩ from rfl, cell_of_row _ _ _ _ _ _ hk]; rfl
  | j + 2, hj => simp at hj


end Go.Proofs.Ytflcdbefakjcbaa
