/- Plain facts on heaps of entries, no program in sight. -/
import Derived.Test.YtnhiohgcoifniaaBase
namespace Go.Gav

/-- A key, and what it stands by. -/
abbrev En := Int × Int
def lessE (a b : En) : Prop := a.2 < b.2 ∨ (a.2 = b.2 ∧ a.1 < b.1)
instance (a b : En) : Decidable (lessE a b) := by unfold lessE; infer_instance
def leE (a b : En) : Prop := ¬ lessE b a

theorem leE_refl (a : En) : leE a a := by unfold leE lessE; omega
theorem leE_trans {a b c : En} (h : leE a b) (k : leE b c) : leE a c := by unfold leE lessE at *; omega
theorem leE_of_less {a b : En} (h : lessE a b) : leE a b := by unfold leE lessE at *; omega
theorem leE_of_not {a b : En} (h : ¬ lessE a b) : leE b a := h
theorem leE_antisymm {a b : En} (h : leE a b) (k : leE b a) : a = b := by
  obtain ⟨a1, a2⟩ := a; obtain ⟨b1, b2⟩ := b
  unfold leE lessE at *
  simp only at *
  have : a1 = b1 ∧ a2 = b2 := by omega
  rw [this.1, this.2]
theorem lessE_trans {a b c : En} (h : lessE a b) (k : lessE b c) : lessE a c := by unfold lessE at *; omega
theorem lessE_irrefl (a : En) : ¬ lessE a a := by unfold lessE; omega

def par (j : Nat) : Nat := (j - 1) / 2
def swapF (g : Nat → En) (i k : Nat) : Nat → En := fun j => if j = i then g k else if j = k then g i else g j

/-- A heap, but for i against the one above it. -/
def UpP (g : Nat → En) (n i : Nat) : Prop :=
  (∀ j, 0 < j → j < n → j ≠ i → par j ≠ i → leE (g (par j)) (g j)) ∧ (0 < i → ∀ j, 0 < j → j < n → par j = i → leE (g (par i)) (g j))
/-- A heap, but for i against those below it. -/
def DownP (g : Nat → En) (n i : Nat) : Prop :=
  (∀ j, 0 < j → j < n → par j ≠ i → leE (g (par j)) (g j)) ∧ (0 < i → ∀ j, 0 < j → j < n → par j = i → leE (g (par i)) (g j))
def HeapP (g : Nat → En) (n : Nat) : Prop := ∀ j, 0 < j → j < n → leE (g (par j)) (g j)

theorem par_lt {j : Nat} (h : 0 < j) : par j < j := by unfold par; omega

theorem up_step {g : Nat → En} {n i : Nat} (h : UpP g n i) (h0 : 0 < i) (hn : i < n) (hl : lessE (g i) (g (par i))) : UpP (swapF g i (par i)) n (par i) := by
  have hp := par_lt h0
  obtain ⟨h1, h2⟩ := h
  refine ⟨fun j j0 jn jp pj => ?_, fun p0 j j0 jn pj => ?_⟩
  · unfold swapF
    by_cases hji : j = i
    · subst hji; exact absurd rfl pj
    · rw [if_neg hji, if_neg jp]
      by_cases hpi : par j = i
      · rw [if_pos hpi]; exact h2 h0 j j0 jn hpi
      · rw [if_neg hpi, if_neg pj]; exact h1 j j0 jn hji hpi
  · have hpp := par_lt p0
    have hgp : leE (g (par (par i))) (g (par i)) := h1 (par i) p0 (by omega) (by omega) (by omega)
    unfold swapF
    rw [if_neg (show par (par i) ≠ i by omega), if_neg (show par (par i) ≠ par i by omega)]
    by_cases hji : j = i
    · rw [if_pos hji]; exact hgp
    · rw [if_neg hji]
      have hj := par_lt j0
      rw [if_neg (show j ≠ par i by omega)]
      refine leE_trans hgp ?_
      have := h1 j j0 jn hji (by omega)
      rwa [pj] at this

theorem up_done {g : Nat → En} {n i : Nat} (h : UpP g n i) (hl : 0 < i → leE (g (par i)) (g i)) : DownP g n i := by
  refine ⟨fun j j0 jn pj => ?_, h.2⟩
  by_cases hji : j = i
  · subst hji; exact hl j0
  · exact h.1 j j0 jn hji pj

theorem down_step {g : Nat → En} {n i c : Nat} (h : DownP g n i) (hc0 : 0 < c) (hcn : c < n) (hp : par c = i) (hl : lessE (g c) (g i)) (hm : ∀ d, 0 < d → d < n → par d = i → leE (g c) (g d)) : DownP (swapF g i c) n c := by
  obtain ⟨h1, h2⟩ := h
  have hci := par_lt hc0
  refine ⟨fun j j0 jn pj => ?_, fun _ j j0 jn pj => ?_⟩
  · unfold swapF
    have hjp := par_lt j0
    by_cases hji : j = i
    · subst hji
      rw [if_pos rfl, if_neg (show par j ≠ j by omega), if_neg pj]
      exact h2 j0 c hc0 hcn hp
    · rw [if_neg hji]
      by_cases hpi : par j = i
      · rw [if_pos hpi]
        by_cases hjc : j = c
        · rw [if_pos hjc]; exact leE_of_less hl
        · rw [if_neg hjc]; exact hm j j0 jn hpi
      · rw [if_neg hpi, if_neg pj]
        by_cases hjc : j = c
        · subst hjc; exact absurd hp hpi
        · rw [if_neg hjc]; exact h1 j j0 jn hpi
  · unfold swapF
    have hjp := par_lt j0
    rw [hp, if_pos rfl, if_neg (show j ≠ i by omega), if_neg (show j ≠ c by omega)]
    have := h1 j j0 jn (by omega)
    rwa [pj] at this

theorem down_done {g : Nat → En} {n i : Nat} (h : DownP g n i) (hl : ∀ d, 0 < d → d < n → par d = i → leE (g i) (g d)) : HeapP g n := by
  intro j j0 jn
  by_cases hpi : par j = i
  · rw [hpi]; exact hl j j0 jn hpi
  · exact h.1 j j0 jn hpi

theorem heap_set {g g' : Nat → En} {n i : Nat} (h : HeapP g n) (hi : i < n) (hg : ∀ j, j < n → j ≠ i → g' j = g j) : UpP g' n i := by
  refine ⟨fun j j0 jn ji pj => ?_, fun i0 j j0 jn pj => ?_⟩
  · have := par_lt j0
    rw [hg _ (by omega) pj, hg j jn ji]; exact h j j0 jn
  · have := par_lt j0
    have := par_lt i0
    rw [hg _ (by omega) (by omega), hg j jn (by omega)]
    have h1 := h j j0 jn
    rw [pj] at h1
    exact leE_trans (h i i0 hi) h1

theorem heap_push {g g' : Nat → En} {n : Nat} (h : HeapP g n) (hg : ∀ j, j < n → g' j = g j) : UpP g' (n + 1) n := by
  refine ⟨fun j j0 jn ji pj => ?_, fun i0 j j0 jn pj => ?_⟩
  · have := par_lt j0
    rw [hg _ (by omega), hg j (by omega)]; exact h j j0 (by omega)
  · have := par_lt j0
    omega

theorem heap_less {g g' : Nat → En} {n m : Nat} (h : HeapP g n) (hm : m ≤ n) (hg : ∀ j, j < m → g' j = g j) : HeapP g' m := by
  intro j j0 jm
  have := par_lt j0
  rw [hg _ (by omega), hg j jm]; exact h j j0 (by omega)

theorem heap_min {g : Nat → En} {n : Nat} (h : HeapP g n) : ∀ j, j < n → leE (g 0) (g j) := by
  intro j
  induction j using Nat.strongRecOn with
  | ind j ih =>
    intro hj
    by_cases h0 : j = 0
    · rw [h0]; exact leE_refl _
    · have := par_lt (show 0 < j by omega)
      exact leE_trans (ih (par j) this (by omega)) (h j (by omega) hj)

/-! ### Lists of entries -/
def atE (l : List En) (i : Nat) : En := l.getD i (0, 0)
def swapL (l : List En) (i k : Nat) : List En := (l.set i (atE l k)).set k (atE l i)

theorem swapL_length (l : List En) (i k : Nat) : (swapL l i k).length = l.length := by simp [swapL]
theorem swapL_at (l : List En) (i k : Nat) (hi : i < l.length) (hk : k < l.length) : ∀ j, j < l.length → atE (swapL l i k) j = swapF (atE l) i k j := by
  intro j hj
  have h1 : atE (swapL l i k) j = if j = k then atE l i else if j = i then atE l k else atE l j := by
    unfold swapL
    have e : ∀ (m : List En) (a : Nat) (x : En), a < m.length → atE (m.set a x) j = if j = a then x else atE m j := by
      intro m a x ha
      by_cases hja : j = a
      · subst hja; simp [atE, ha]
      · rw [if_neg hja]; simp [atE, List.getElem?_set, Ne.symm hja]
    rw [e _ k _ (by simpa using hk), e _ i _ hi]
  rw [h1]
  unfold swapF
  by_cases hji : j = i
  · by_cases hjk : j = k
    · rw [if_pos hjk, if_pos hji, ← hji, hjk]
    · rw [if_neg hjk, if_pos hji, if_pos hji]
  · by_cases hjk : j = k
    · rw [if_pos hjk, if_neg hji, if_pos hjk]
    · rw [if_neg hjk, if_neg hji, if_neg hji, if_neg hjk]

theorem atE_get (l : List En) (i : Nat) (h : i < l.length) : atE l i = l[i] := by simp [atE, h]
theorem atE_mem (l : List En) (i : Nat) (h : i < l.length) : atE l i ∈ l := by rw [atE_get l i h]; exact List.getElem_mem h

theorem swapL_perm (l : List En) (i k : Nat) (hi : i < l.length) (hk : k < l.length) : (swapL l i k).Perm l := by
  rw [List.perm_iff_count]
  intro a
  unfold swapL
  rw [List.count_set (by simpa using hk), List.count_set hi]
  rw [atE_get l k hk, atE_get l i hi]
  have hpos : ∀ j (hj : j < l.length), (if (l[j] == a) = true then 1 else 0) ≤ l.count a := by
    intro j hj
    split
    · rename_i h
      have : l[j] = a := by simpa using h
      exact List.count_pos_iff.2 (this ▸ List.getElem_mem hj)
    · omega
  have h1 := hpos i hi
  have h2 := hpos k hk
  rw [List.getElem_set]
  simp only [ite_self]
  generalize (if (l[i] == a) = true then 1 else 0) = A at *
  generalize (if (l[k] == a) = true then 1 else 0) = B at *
  omega

end Go.Gav
