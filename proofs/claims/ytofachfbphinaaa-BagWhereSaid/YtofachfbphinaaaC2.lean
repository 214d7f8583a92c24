/- A bag in the world: its facts. -/
import Derived.Test.YtofachfbphinaaaB7
import Derived.Test.YtofachfbphinaaaB8
import Derived.Test.YtofachfbphinaaaC1
namespace Go.Proofs.Ytofachfbphinaaa
open Go.RowKit Go.Gav Go.BigFrame

/-- A row of elements, cell by cell. -/
def flatM (xs : List (Int × Int)) : List Value := xs.flatMap fun x => [.int .i64 x.1, .int .i64 x.2]

theorem flatM_length (xs : List (Int × Int)) : (flatM xs).length = xs.length * 2 := by
  induction xs with
  | nil => rfl
  | cons x xs ih => simp only [flatM, List.flatMap_cons, List.length_append, List.length_cons, List.length_nil] at ih ⊢; omega

theorem flatM_append (xs ys : List (Int × Int)) : flatM (xs ++ ys) = flatM xs ++ flatM ys := by simp [flatM]

theorem flatM_take (xs : List (Int × Int)) (i : Nat) (h : i ≤ xs.length) : (flatM xs).take (i * 2) = flatM (xs.take i) := by
  have e : flatM xs = flatM (xs.take i) ++ flatM (xs.drop i) := by rw [← flatM_append, List.take_append_drop]
  rw [e]
  exact List.take_left' (by rw [flatM_length, List.length_take, Nat.min_eq_left h])

theorem flatM_drop (xs : List (Int × Int)) (i : Nat) (h : i ≤ xs.length) : (flatM xs).drop (i * 2) = flatM (xs.drop i) := by
  have e : flatM xs = flatM (xs.take i) ++ flatM (xs.drop i) := by rw [← flatM_append, List.take_append_drop]
  rw [e]
  exact List.drop_left' (by rw [flatM_length, List.length_take, Nat.min_eq_left h])

theorem flatM_one {xs : List (Int × Int)} : ∀ u ∈ flatM xs, u.oneCell' = true := by
  intro u hu
  simp only [flatM, List.mem_flatMap] at hu
  obtain ⟨x, _, hx⟩ := hu
  simp at hx; rcases hx with rfl | rfl <;> rfl

theorem flatM_get (xs : List (Int × Int)) (i : Nat) (h : i < xs.length) : (flatM xs)[i * 2]? = some (.int .i64 (xs.getD i (0, 0)).1) ∧ (flatM xs)[i * 2 + 1]? = some (.int .i64 (xs.getD i (0, 0)).2) := by
  have hd : (flatM xs).drop (i * 2) = flatM (xs.drop i) := flatM_drop xs i (Nat.le_of_lt h)
  have hx : xs.drop i = xs[i] :: xs.drop (i + 1) := List.drop_eq_getElem_cons h
  have e0 : (flatM xs)[i * 2]? = (flatM (xs.drop i))[0]? := by rw [← hd, List.getElem?_drop]; rfl
  have e1 : (flatM xs)[i * 2 + 1]? = (flatM (xs.drop i))[1]? := by rw [← hd, List.getElem?_drop]
  have eg : xs.getD i (0, 0) = xs[i] := by simp [List.getD_eq_getElem?_getD, h]
  rw [e0, e1, hx, eg]
  exact ⟨rfl, rfl⟩

/-- With one more, behind those that it is level with. -/
def insBM : List (Int × Int) → Int × Int → List (Int × Int)
  | [], x => [x]
  | y :: ys, x => if y.1 ≤ x.1 then y :: insBM ys x else x :: y :: ys

theorem insBM_length (xs : List (Int × Int)) (x : Int × Int) : (insBM xs x).length = xs.length + 1 := by
  induction xs with
  | nil => rfl
  | cons y ys ih => simp only [insBM]; split <;> simp [ih]

theorem insBM_at (xs : List (Int × Int)) (x : Int × Int) (hi : Nat) (h : HiP (fun i => (xs.getD i (0, 0)).1) xs.length (x.1) hi) : insBM xs x = xs.take hi ++ x :: xs.drop hi := by
  induction xs generalizing hi with
  | nil => simp [insBM]
  | cons y ys ih =>
    obtain ⟨h1, h2, h3⟩ := h
    simp only [List.length_cons] at h1 h3
    simp only [insBM]
    cases hi with
    | zero =>
      have := h3 0 (by omega) (by omega)
      simp at this
      rw [if_neg (by omega)]
      rfl
    | succ hi =>
      have := h2 0 (by omega)
      simp at this
      rw [if_pos this, ih hi ⟨by omega, fun j hj => by simpa using h2 (j + 1) (by omega), fun j h4 h5 => by simpa using h3 (j + 1) (by omega) (by omega)⟩]
      rfl

/-- It rises. -/
def UpM (xs : List (Int × Int)) : Prop := xs.Pairwise fun a b => a.1 ≤ b.1

theorem insBM_mem (xs : List (Int × Int)) (x z : Int × Int) (h : z ∈ insBM xs x) : z = x ∨ z ∈ xs := by
  induction xs with
  | nil => simp [insBM] at h; exact .inl h
  | cons y ys ih =>
    simp only [insBM] at h
    split at h
    · rcases List.mem_cons.1 h with h | h
      · exact .inr (by simp [h])
      · rcases ih h with h | h
        · exact .inl h
        · exact .inr (by simp [h])
    · rcases List.mem_cons.1 h with h | h
      · exact .inl h
      · exact .inr h

theorem insBM_up (xs : List (Int × Int)) (x : Int × Int) (h : UpM xs) : UpM (insBM xs x) := by
  unfold UpM at *
  induction xs with
  | nil => simp [insBM]
  | cons y ys ih =>
    rw [List.pairwise_cons] at h
    simp only [insBM]
    split
    · rename_i hle
      rw [List.pairwise_cons]
      refine ⟨fun z hz => ?_, ih h.2⟩
      rcases insBM_mem _ _ _ hz with rfl | hz
      · exact hle
      · exact h.1 z hz
    · rename_i hle
      rw [List.pairwise_cons]
      refine ⟨fun z hz => ?_, List.pairwise_cons.2 h⟩
      rcases List.mem_cons.1 hz with rfl | hz
      · omega
      · have := h.1 z hz
        omega

theorem UpM.get {xs : List (Int × Int)} (h : UpM xs) : ∀ i j, i ≤ j → j < xs.length → (xs.getD i (0, 0)).1 ≤ (xs.getD j (0, 0)).1 := by
  intro i j hij hj
  by_cases he : i = j
  · subst he; exact Int.le_refl _
  · have := List.pairwise_iff_getElem.1 h i j (by omega) hj (by omega)
    simpa [List.getD_eq_getElem?_getD, hj, (by omega : i < xs.length)] using this

/-- A bag at block b, whose row is v, that holds xs. -/
structure BagM (w : World) (b : Nat) (v : Value) (xs : List (Int × Int)) : Prop where
  head : w.heap[b]? = some (.cells #[.func (.func 22) #[] #[], v] 79 (0, 0))
  row : w.ownsRow 0 49 2 v xs.length (flatM xs)
  apart : v.ownBlock ≠ some b
  up : UpM xs


theorem BagM.only {S : Nat → Prop} {w w' : World} {b : Nat} {v : Value} {xs : List (Int × Int)} (h : BagM w b v xs) (ho : Only S w w') (hb : ¬ S b) (hS : ∀ g, v.ownBlock = some g → ¬ S g) : BagM w' b v xs :=
  ⟨ho.keep h.head hb, row_only h.row ho hS, h.apart, h.up⟩

theorem readsM_row {w : World} {v : Value} {xs : List (Int × Int)} (h : w.ownsRow 0 49 2 v xs.length (flatM xs)) :
    ∃ ao cap, v = .slice ao xs.length cap ∧ ReadsM w ao xs.length (fun i => xs.getD i (0, 0)) ∧ (∀ g, ao = some ⟨g, 0, none⟩ → v.ownBlock = some g) := by
  rcases h.2 with ⟨hv, hn⟩ | ⟨g, cap, cur, hv, hb, hg, hnc, hcm, hcs, ht⟩
  · exact ⟨none, 0, by rw [hv, hn], fun h0 => by omega, fun g hg => by cases hg⟩
  · refine ⟨some ⟨g, 0, none⟩, cap, hv, fun _ => ⟨g, rfl, fun i hi => ?_⟩, fun k hk => by cases hk; rw [hv]; rfl⟩
    have hq : ∀ j, j < xs.length * 2 → cur[j]? = (flatM xs)[j]? := fun j hj => by
      rw [← ht, List.getElem?_take_of_lt hj, Array.getElem?_toList]
    have := flatM_get xs i hi
    rw [cell_of_row w g (i * 2) _ _ _ hg, hq (i * 2) (by omega), cell_of_row w g (i * 2 + 1) _ _ _ hg, hq (i * 2 + 1) (by omega)]
    exact this

theorem BagM.reads {w : World} {b : Nat} {v : Value} {xs : List (Int × Int)} (h : BagM w b v xs) :
    ∃ ao cap, v = .slice ao xs.length cap ∧ ReadsM w ao xs.length (fun i => xs.getD i (0, 0)) ∧ (∀ g, ao = some ⟨g, 0, none⟩ → v.ownBlock = some g) := readsM_row h.row

end Go.Proofs.Ytofachfbphinaaa
