/- A bag in the world: its facts. -/
import Derived.Test.YtofachfbphinaaaB7
import Derived.Test.YtofachfbphinaaaB8
namespace Go.Proofs.Ytofachfbphinaaa
open Go.RowKit Go.Gav Go.BigFrame

/-- A row of elements, cell by cell. -/
def flatI (xs : List (Int)) : List Value := xs.flatMap fun x => [.int .i64 x]

theorem flatI_length (xs : List (Int)) : (flatI xs).length = xs.length * 1 := by
  induction xs with
  | nil => rfl
  | cons x xs ih => simp only [flatI, List.flatMap_cons, List.length_append, List.length_cons, List.length_nil] at ih ⊢; omega

theorem flatI_append (xs ys : List (Int)) : flatI (xs ++ ys) = flatI xs ++ flatI ys := by simp [flatI]

theorem flatI_take (xs : List (Int)) (i : Nat) (h : i ≤ xs.length) : (flatI xs).take (i * 1) = flatI (xs.take i) := by
  have e : flatI xs = flatI (xs.take i) ++ flatI (xs.drop i) := by rw [← flatI_append, List.take_append_drop]
  rw [e]
  exact List.take_left' (by rw [flatI_length, List.length_take, Nat.min_eq_left h])

theorem flatI_drop (xs : List (Int)) (i : Nat) (h : i ≤ xs.length) : (flatI xs).drop (i * 1) = flatI (xs.drop i) := by
  have e : flatI xs = flatI (xs.take i) ++ flatI (xs.drop i) := by rw [← flatI_append, List.take_append_drop]
  rw [e]
  exact List.drop_left' (by rw [flatI_length, List.length_take, Nat.min_eq_left h])

theorem flatI_one {xs : List (Int)} : ∀ u ∈ flatI xs, u.oneCell' = true := by
  intro u hu
  simp only [flatI, List.mem_flatMap] at hu
  obtain ⟨x, _, hx⟩ := hu
  simp at hx; subst hx; rfl

theorem flatI_map (xs : List Int) : flatI xs = xs.map (.int .i64) := by
  induction xs with
  | nil => rfl
  | cons x xs ih => rw [List.map_cons, ← ih]; rfl

theorem flatI_get (xs : List (Int)) (i : Nat) (h : i < xs.length) : (flatI xs)[i]? = some (.int .i64 (xs.getD i 0)) := by
  rw [flatI_map]
  simp [List.getD_eq_getElem?_getD, h]

/-- With one more, behind those that it is level with. -/
def insBI : List (Int) → Int → List (Int)
  | [], x => [x]
  | y :: ys, x => if y ≤ x then y :: insBI ys x else x :: y :: ys

theorem insBI_length (xs : List (Int)) (x : Int) : (insBI xs x).length = xs.length + 1 := by
  induction xs with
  | nil => rfl
  | cons y ys ih => simp only [insBI]; split <;> simp [ih]

theorem insBI_at (xs : List (Int)) (x : Int) (hi : Nat) (h : HiP (fun i => (xs.getD i 0)) xs.length (x) hi) : insBI xs x = xs.take hi ++ x :: xs.drop hi := by
  induction xs generalizing hi with
  | nil => simp [insBI]
  | cons y ys ih =>
    obtain ⟨h1, h2, h3⟩ := h
    simp only [List.length_cons] at h1 h3
    simp only [insBI]
    cases hi with
    | zero =>
      have := h3 0 (by omega) (by omega)
      simp at this
      rw [if_neg (by omega)]
      rfl
    | succ hi =>
      have := h2 0 (by omega)
      simp at this
      rw [if_pos this, ih hi ⟨by omega, fun j hj => by simpa using h2 (j + 1) (by omega), fun j h4 h5 => by simpa using h3 (j + 1) (by omega) (by omega)⟩]
      rfl

/-- It rises. -/
def UpI (xs : List (Int)) : Prop := xs.Pairwise fun a b => a ≤ b

theorem insBI_mem (xs : List (Int)) (x z : Int) (h : z ∈ insBI xs x) : z = x ∨ z ∈ xs := by
  induction xs with
  | nil => simp [insBI] at h; exact .inl h
  | cons y ys ih =>
    simp only [insBI] at h
    split at h
    · rcases List.mem_cons.1 h with h | h
      · exact .inr (by simp [h])
      · rcases ih h with h | h
        · exact .inl h
        · exact .inr (by simp [h])
    · rcases List.mem_cons.1 h with h | h
      · exact .inl h
      · exact .inr h

theorem insBI_up (xs : List (Int)) (x : Int) (h : UpI xs) : UpI (insBI xs x) := by
  unfold UpI at *
  induction xs with
  | nil => simp [insBI]
  | cons y ys ih =>
    rw [List.pairwise_cons] at h
    simp only [insBI]
    split
    · rename_i hle
      rw [List.pairwise_cons]
      refine ⟨fun z hz => ?_, ih h.2⟩
      rcases insBI_mem _ _ _ hz with rfl | hz
      · exact hle
      · exact h.1 z hz
    · rename_i hle
      rw [List.pairwise_cons]
      refine ⟨fun z hz => ?_, List.pairwise_cons.2 h⟩
      rcases List.mem_cons.1 hz with rfl | hz
      · omega
      · have := h.1 z hz
        omega

theorem UpI.get {xs : List (Int)} (h : UpI xs) : ∀ i j, i ≤ j → j < xs.length → (xs.getD i 0) ≤ (xs.getD j 0) := by
  intro i j hij hj
  by_cases he : i = j
  · subst he; exact Int.le_refl _
  · have := List.pairwise_iff_getElem.1 h i j (by omega) hj (by omega)
    simpa [List.getD_eq_getElem?_getD, hj, (by omega : i < xs.length)] using this

/-- A bag at block b, whose row is v, that holds xs. -/
structure BagI (w : World) (b : Nat) (v : Value) (xs : List (Int)) : Prop where
  head : w.heap[b]? = some (.cells #[.func (.func 11) #[] #[], v] 71 (0, 0))
  row : w.ownsRow 0 3 1 v xs.length (flatI xs)
  apart : v.ownBlock ≠ some b
  up : UpI xs

theorem row_only {S : Nat → Prop} {w w' : World} {e k n : Nat} {v : Value} {xs : List Value} (h : w.ownsRow 0 e k v n xs) (ho : Only S w w') (hS : ∀ g, v.ownBlock = some g → ¬ S g) : w'.ownsRow 0 e k v n xs := by
  refine ⟨h.1, ?_⟩
  rcases h.2 with hn | ⟨g, cap, cur, hv, hb, hg, rest⟩
  · exact .inl hn
  · exact .inr ⟨g, cap, cur, hv, hb, ho.keep hg (hS g (by rw [hv]; rfl)), rest⟩

theorem BagI.only {S : Nat → Prop} {w w' : World} {b : Nat} {v : Value} {xs : List (Int)} (h : BagI w b v xs) (ho : Only S w w') (hb : ¬ S b) (hS : ∀ g, v.ownBlock = some g → ¬ S g) : BagI w' b v xs :=
  ⟨ho.keep h.head hb, row_only h.row ho hS, h.apart, h.up⟩

theorem readsI_row {w : World} {v : Value} {xs : List (Int)} (h : w.ownsRow 0 3 1 v xs.length (flatI xs)) :
    ∃ ao cap, v = .slice ao xs.length cap ∧ ReadsI w ao xs.length (fun i => xs.getD i 0) ∧ (∀ g, ao = some ⟨g, 0, none⟩ → v.ownBlock = some g) := by
  rcases h.2 with ⟨hv, hn⟩ | ⟨g, cap, cur, hv, hb, hg, hnc, hcm, hcs, ht⟩
  · exact ⟨none, 0, by rw [hv, hn], fun h0 => by omega, fun g hg => by cases hg⟩
  · refine ⟨some ⟨g, 0, none⟩, cap, hv, fun _ => ⟨g, rfl, fun i hi => ?_⟩, fun k hk => by cases hk; rw [hv]; rfl⟩
    have hq : ∀ j, j < xs.length * 1 → cur[j]? = (flatI xs)[j]? := fun j hj => by
      rw [← ht, List.getElem?_take_of_lt hj, Array.getElem?_toList]
    have := flatI_get xs i hi
    rw [cell_of_row w g i _ _ _ hg, hq i (by omega)]
    exact this

theorem BagI.reads {w : World} {b : Nat} {v : Value} {xs : List (Int)} (h : BagI w b v xs) :
    ∃ ao cap, v = .slice ao xs.length cap ∧ ReadsI w ao xs.length (fun i => xs.getD i 0) ∧ (∀ g, ao = some ⟨g, 0, none⟩ → v.ownBlock = some g) := readsI_row h.row

end Go.Proofs.Ytofachfbphinaaa
