/- The contract of the iterator of Heads. -/
import Derived.Test.YtflcdbefakjcbaaP2
import Derived.Test.YtflcdbefakjcbaaO5
import Derived.Test.YtflcdbefakjcbaaM6
import Derived.Test.YtflcdbefakjcbaaRnd
namespace Go.Proofs.Ytflcdbefakjcbaa
open Go.RowKit Go.Gav Go.BigFrame Go.Shelf
attribute [local go_sem] Oper.semAt_some

theorem info103 : (Try.prog.info? 103).map (fun i => (i.zero, i.size, i.bytes)) = some (some (.agg #[.int .i64 0, .int .i64 0, .int .i64 0]), 3, 24) := by kernel_rfl

/-- What is handed out of these links. -/
def handL (sel : List Int → List Int) (f : Cont) (l : List En) : List It := l.flatMap fun p => (sel (f p)).map fun v => (p, v)
theorem handL_snoc (sel : List Int → List Int) (f : Cont) (l : List En) (x : En) : handL sel f (l ++ [x]) = handL sel f l ++ (sel (f x)).map (fun v => (x, v)) := by simp [handL]
theorem handL_filter (sel : List Int → List Int) (f : Cont) (p : En → Bool) (hs : sel [] = []) : ∀ l : List En, (∀ x ∈ l, p x = false → f x = []) → handL sel f (l.filter p) = handL sel f l
  | [], _ => rfl
  | x :: l, h => by
    have ih := handL_filter sel f p hs l (fun y hy => h y (by simp [hy]))
    have e : handL sel f (x :: l) = (sel (f x)).map (fun v => (x, v)) ++ handL sel f l := by simp [handL]
    rw [e, List.filter_cons]
    cases hp : p x with
    | true => simp only [if_true]; rw [show handL sel f (x :: l.filter p) = (sel (f x)).map (fun v => (x, v)) ++ handL sel f (l.filter p) by simp [handL], ih]
    | false => simp [ih, h x (by simp) hp, hs]
theorem handL_le (sel : List Int → List Int) (hsel : ∀ l, (sel l).length ≤ l.length) (f : Cont) (m : Nat) : ∀ l : List En, (∀ x, (f x).length ≤ m) → (handL sel f l).length ≤ l.length * m
  | [], _ => by simp [handL]
  | x :: l, h => by
    have ih := handL_le sel hsel f m l h
    have e : handL sel f (x :: l) = (sel (f x)).map (fun v => (x, v)) ++ handL sel f l := by simp [handL]
    have h1 := hsel (f x)
    have h2 := h x
    rw [e, List.length_append, List.length_map, List.length_cons, Nat.add_mul]
    omega

/-- A row's block is no block of deferred calls. -/
theorem row_ne {w : World} {B n : Nat} {v : Value} {xs : List Value} {t : TypeId} {sz D : Nat} {d : Option (List Deferred)} (h : w.ownsRow B t sz v n xs) (hD : w.heap[D]? = some (.deferred d)) : v.ownBlock ≠ some D := by
  intro e
  rcases h.2 with ⟨rfl, _⟩ | ⟨g, cap, cur, rfl, _, hg, _⟩
  · simp [Value.ownBlock] at e
  · simp [Value.ownBlock] at e
    subst e
    rw [hD] at hg
    cases hg

/-- What holds ahead of the round for link i. -/
structure Col (W wr : World) (acc : List It) (Ds : List Nat) (v : Value) : Prop where
  box : wr.heap[W.heap.size]? = some (.cells #[v] 101 (0, 0))
  row : wr.ownsRow (W.heap.size + 1) 103 3 v acc.length (flat3 acc)
  nd : Ds.Nodup
  ds : ∀ D ∈ Ds, wr.heap[D]? = some (.deferred (some []))
  dlo : ∀ D ∈ Ds, W.heap.size ≤ D
  only : Only (fun _ => False) W wr

theorem Col.keep {S : Nat → Prop} {W wr w2 : World} {acc : List It} {Ds : List Nat} {v : Value} (h : Col W wr acc Ds v) (ho : Only S wr w2) (hS : ∀ k, S k → k < W.heap.size + 1 → False) (hr : ∀ k, v.ownBlock = some k → ¬ S k) (hd : ∀ D ∈ Ds, ¬ S D) : Col W w2 acc Ds v := by
  refine ⟨ho.keep h.box (fun hh => hS _ hh (by omega)), ?_, h.nd, fun D hD => ho.keep (h.ds D hD) (hd D hD), h.dlo, h.only.trans ho (fun j hj hh => hS j hh (by omega))⟩
  refine ⟨h.row.1, ?_⟩
  rcases h.row.2 with hn | ⟨g, cap, cur, hv, hb, hg, rest⟩
  · exact .inl hn
  · exact .inr ⟨g, cap, cur, hv, hb, ho.keep hg (hr g (by rw [hv]; rfl)), rest⟩


theorem rowT {w : World} {B n : Nat} {v : Value} {L : List It} {t : TypeId} (h : w.ownsRow B t 3 v n (flat3 L)) : ∃ ao cap, v = .slice ao L.length cap ∧ ∃ rg, (0 < L.length → ao = some ⟨rg, 0, none⟩ ∧ B ≤ rg ∧ rg < w.heap.size) ∧ ∀ j u, (flat3 L)[j]? = some u → w.cell? ⟨rg, j, none⟩ = some u := by
  have hl := h.1
  rw [flat3_length] at hl
  obtain rfl : n = L.length := by omega
  rcases h.2 with ⟨rfl, h0⟩ | ⟨g, cap, cur, rfl, hb, h1, h2, h3, h4, h5⟩
  · refine ⟨none, 0, by rw [h0], 0, fun h => by omega, fun j u hj => ?_⟩
    have : L = [] := List.eq_nil_of_length_eq_zero h0
    subst this
    simp [flat3] at hj
  · refine ⟨_, cap, rfl, g, fun _ => ⟨rfl, hb, lt_of_block h1⟩, fun j u hj => ?_⟩
    have hjl : j < L.length * 3 := by rw [← flat3_length]; exact (List.getElem?_eq_some_iff.1 hj).1
    rw [cell_of_row w g j _ _ _ h1]
    rw [← h5, List.getElem?_take_of_lt hjl, Array.getElem?_toList] at hj
    exact hj

end Go.Proofs.Ytflcdbefakjcbaa
