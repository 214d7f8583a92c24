/- Plain facts on lists of entries in order, no program in sight. -/
import Derived.Test.YtnhiohgcoifniaaP1
namespace Go.Gav

def SortedE (l : List En) : Prop := l.Pairwise lessE
def KeysND (l : List En) : Prop := (l.map (·.1)).Nodup
def delS (l : List En) (k : Int) : List En := l.filter fun e => decide (e.1 ≠ k)
def insE (x : En) : List En → List En
  | [] => [x]
  | y :: ys => if lessE x y then x :: y :: ys else y :: insE x ys
def setS (l : List En) (x : En) : List En := insE x (delS l x.1)
def getS (l : List En) (k : Int) : Option Int := (l.find? fun e => decide (e.1 = k)).map (·.2)

theorem insE_perm (x : En) : ∀ l, (insE x l).Perm (x :: l)
  | [] => List.Perm.refl _
  | y :: ys => by
    unfold insE
    split
    · exact List.Perm.refl _
    · exact ((insE_perm x ys).cons y).trans (List.Perm.swap x y ys)

theorem insE_sorted (x : En) : ∀ l, SortedE l → (∀ y ∈ l, y.1 ≠ x.1) → SortedE (insE x l)
  | [], _, _ => List.pairwise_singleton _ _
  | y :: ys, h, hk => by
    obtain ⟨h1, h2⟩ := List.pairwise_cons.1 h
    unfold insE
    split
    · rename_i hxy
      refine List.pairwise_cons.2 ⟨fun z hz => ?_, h⟩
      rcases List.mem_cons.1 hz with rfl | hz
      · exact hxy
      · exact lessE_trans hxy (h1 z hz)
    · rename_i hxy
      refine List.pairwise_cons.2 ⟨fun z hz => ?_, insE_sorted x ys h2 (fun z hz => hk z (List.mem_cons_of_mem _ hz))⟩
      have hz' := (insE_perm x ys).mem_iff.1 hz
      rcases List.mem_cons.1 hz' with rfl | hz'
      · have h3 := hk y (by simp)
        unfold lessE at *
        omega
      · exact h1 z hz'

theorem delS_sorted {l : List En} (h : SortedE l) (k : Int) : SortedE (delS l k) := h.filter _
theorem delS_keys (l : List En) (k : Int) : ∀ y ∈ delS l k, y.1 ≠ k := fun y hy => by simpa using (List.mem_filter.1 hy).2
theorem delS_sub (l : List En) (k : Int) : ∀ y ∈ delS l k, y ∈ l := fun y hy => (List.mem_filter.1 hy).1
theorem delS_none {l : List En} {k : Int} (h : ∀ y ∈ l, y.1 ≠ k) : delS l k = l := List.filter_eq_self.2 fun y hy => by simpa using h y hy
theorem delS_length (l : List En) (k : Int) : (delS l k).length ≤ l.length := List.length_filter_le _ _
theorem setS_sorted {l : List En} (h : SortedE l) (x : En) : SortedE (setS l x) := insE_sorted x _ (delS_sorted h _) (delS_keys l x.1)
theorem keys_perm {a b : List En} (h : a.Perm b) : KeysND a ↔ KeysND b := (h.map _).nodup_iff
theorem delS_nd {l : List En} (h : KeysND l) (k : Int) : KeysND (delS l k) := List.Nodup.sublist (List.Sublist.map _ List.filter_sublist) h
theorem setS_perm (l : List En) (x : En) : (setS l x).Perm (x :: delS l x.1) := insE_perm x _
theorem setS_nd {l : List En} (h : KeysND l) (x : En) : KeysND (setS l x) := by
  rw [keys_perm (setS_perm l x)]
  unfold KeysND
  rw [List.map_cons, List.nodup_cons]
  refine ⟨fun hm => ?_, delS_nd h _⟩
  obtain ⟨y, hy, e⟩ := List.mem_map.1 hm
  exact delS_keys l x.1 y hy e
theorem setS_length (l : List En) (x : En) : (setS l x).length ≤ l.length + 1 := by
  rw [(setS_perm l x).length_eq, List.length_cons]
  have := delS_length l x.1
  omega

theorem nd_inj {l : List En} (h : KeysND l) {i j : Nat} (hi : i < l.length) (hj : j < l.length) (e : (atE l i).1 = (atE l j).1) : i = j := by
  have h1 : (l.map (·.1))[i]'(by simpa using hi) = (l.map (·.1))[j]'(by simpa using hj) := by simpa [atE_get l i hi, atE_get l j hj] using e
  exact (List.getElem_inj h).1 h1

/-- The entries of a heap, in order. -/
structure Holds (L S : List En) : Prop where
  perm : L.Perm S
  sorted : SortedE S
  nd : KeysND S

theorem Holds.ndL {L S : List En} (h : Holds L S) : KeysND L := (keys_perm h.perm).2 h.nd
theorem Holds.len {L S : List En} (h : Holds L S) : L.length = S.length := h.perm.length_eq
theorem Holds.swap {L S : List En} (h : Holds L S) {i k : Nat} (hi : i < L.length) (hk : k < L.length) : Holds (swapL L i k) S := ⟨(swapL_perm L i k hi hk).trans h.perm, h.sorted, h.nd⟩

theorem cons_erase : ∀ (l : List En) (i : Nat) (h : i < l.length), l.Perm (l[i] :: l.eraseIdx i)
  | a :: l, 0, _ => List.Perm.refl _
  | a :: l, i + 1, h => by
    have := (cons_erase l i (by simpa using h)).cons a
    exact this.trans (List.Perm.swap _ _ _)
theorem set_erase : ∀ (l : List En) (i : Nat) (x : En), i < l.length → (l.set i x).Perm (x :: l.eraseIdx i)
  | a :: l, 0, x, _ => List.Perm.refl _
  | a :: l, i + 1, x, h => by
    have := (set_erase l i x (by simpa using h)).cons a
    exact this.trans (List.Perm.swap _ _ _)

theorem erase_del {L : List En} (h : KeysND L) {i : Nat} (hi : i < L.length) : (L.eraseIdx i).Perm (delS L (atE L i).1) := by
  have h1 : L.Perm (L[i] :: L.eraseIdx i) := cons_erase L i hi
  have hnd := (keys_perm h1).1 h
  unfold KeysND at hnd
  rw [List.map_cons, List.nodup_cons] at hnd
  rw [atE_get L i hi]
  have h2 := h1.filter fun e => decide (e.1 ≠ L[i].1)
  rw [List.filter_cons_of_neg (by simp)] at h2
  have h3 : (L.eraseIdx i).filter (fun e => decide (e.1 ≠ L[i].1)) = L.eraseIdx i := List.filter_eq_self.2 fun y hy => by
    have : y.1 ≠ L[i].1 := fun e => hnd.1 (e ▸ List.mem_map.2 ⟨y, hy, rfl⟩)
    simpa using this
  rw [h3] at h2
  exact h2.symm

theorem del_perm {a b : List En} (h : a.Perm b) (k : Int) : (delS a k).Perm (delS b k) := h.filter _

theorem Holds.put {L S : List En} (h : Holds L S) {i : Nat} (hi : i < L.length) (b : Int) : Holds (L.set i ((atE L i).1, b)) (setS S ((atE L i).1, b)) := by
  refine ⟨?_, setS_sorted h.sorted _, setS_nd h.nd _⟩
  refine (set_erase L i _ hi).trans ?_
  exact ((((erase_del h.ndL hi).trans (del_perm h.perm _)).cons _).trans (setS_perm S ((atE L i).1, b)).symm)

theorem Holds.push {L S : List En} (h : Holds L S) {x : En} (hk : ∀ y ∈ S, y.1 ≠ x.1) : Holds (L ++ [x]) (setS S x) := by
  refine ⟨?_, setS_sorted h.sorted _, setS_nd h.nd _⟩
  refine (List.perm_append_comm.trans ?_).trans (setS_perm S x).symm
  rw [delS_none hk]
  exact h.perm.cons x

theorem swapL_last (L : List En) (i : Nat) (hi : i < L.length) : atE (swapL L i (L.length - 1)) (L.length - 1) = atE L i := by
  rw [swapL_at L i _ hi (by omega) _ (by omega)]
  unfold swapF
  split
  · rename_i e; rw [← e]
  · rw [if_pos rfl]

theorem Holds.del {L S : List En} (h : Holds L S) {i : Nat} (hi : i < L.length) : Holds ((swapL L i (L.length - 1)).take (L.length - 1)) (delS S (atE L i).1) := by
  refine ⟨?_, delS_sorted h.sorted _, delS_nd h.nd _⟩
  have hn : L.length - 1 < (swapL L i (L.length - 1)).length := by rw [swapL_length]; omega
  have h1 : (swapL L i (L.length - 1)).eraseIdx (L.length - 1) = (swapL L i (L.length - 1)).take (L.length - 1) := by
    rw [List.eraseIdx_eq_take_drop_succ, List.drop_of_length_le (by rw [swapL_length]; omega), List.append_nil]
  have hs : Holds (swapL L i (L.length - 1)) S := h.swap hi (by omega)
  rw [← h1]
  have := erase_del hs.ndL hn
  rw [swapL_last L i hi] at this
  exact this.trans (del_perm hs.perm _)

theorem Holds.top {L S : List En} (h : Holds L S) (hp : HeapP (atE L) L.length) (h0 : 0 < L.length) : ∃ S', S = atE L 0 :: S' := by
  cases hS : S with
  | nil => have := h.len; rw [hS, List.length_nil] at this; omega
  | cons x xs =>
    have hx : x ∈ L := h.perm.mem_iff.2 (by rw [hS]; simp)
    obtain ⟨j, hj, e⟩ := List.getElem_of_mem hx
    have h1 : leE (atE L 0) x := by
      have := heap_min hp j hj
      rwa [atE_get L j hj, e] at this
    have h2 : leE x (atE L 0) := by
      have hm : atE L 0 ∈ S := h.perm.mem_iff.1 (atE_mem L 0 h0)
      rw [hS] at hm
      rcases List.mem_cons.1 hm with e | hm
      · rw [e]; exact leE_refl _
      · have := h.sorted
        unfold SortedE at this
        rw [hS] at this
        exact leE_of_less ((List.pairwise_cons.1 this).1 _ hm)
    exact ⟨xs, by rw [leE_antisymm h1 h2]⟩

/-- What a key stands by. -/
theorem getS_some {S : List En} (h : KeysND S) {x : En} (hx : x ∈ S) : getS S x.1 = some x.2 := by
  induction S with
  | nil => cases hx
  | cons y ys ih =>
    unfold KeysND at h
    rw [List.map_cons, List.nodup_cons] at h
    unfold getS
    rcases List.mem_cons.1 hx with rfl | hx
    · simp
    · have : y.1 ≠ x.1 := fun e => h.1 (e ▸ List.mem_map.2 ⟨x, hx, rfl⟩)
      rw [List.find?_cons_of_neg (by simpa using this)]
      exact ih h.2 hx
theorem getS_none {S : List En} {k : Int} (h : ∀ y ∈ S, y.1 ≠ k) : getS S k = none := by
  unfold getS
  rw [List.find?_eq_none.2 (fun y hy => by simpa using h y hy)]
  rfl
theorem getS_cases (S : List En) (k : Int) : (∃ x ∈ S, x.1 = k) ∨ ∀ y ∈ S, y.1 ≠ k := by
  by_cases h : ∃ x ∈ S, x.1 = k
  · exact .inl h
  · exact .inr fun y hy e => h ⟨y, hy, e⟩

end Go.Gav
