/- What the operations make of the index. -/
import Derived.Test.YtnhiohgcoifniaaH2
namespace Go.Proofs.Ytnhiohgcoifniaa
open Go.RowKit Go.Gav Go.BigFrame
open Go.Maps (Tidy IsMap)

theorem isKey (k : Int) : Go.WideAt.IsKeyLit (.int .i64 k) := by
  simp [Go.WideAt.IsKeyLit]

theorem lit_ne {a b : Int} (h : a ≠ b) : (Lit.int .i64 a) ≠ (Lit.int .i64 b) := fun e => h (by cases e; rfl)

theorem Idx.inj {D : DataW Unit} {L : List En} (h : Idx D L) {i j : Nat} (hi : i < L.length) (hj : j < L.length) (e : (atE L i).1 = (atE L j).1) : i = j := by
  have h1 := h.at_ i hi (.lit (.int .i64 0))
  have h2 := h.at_ j hj (.lit (.int .i64 0))
  rw [e, h2] at h1
  simp only [DataW.lit.injEq, Lit.int.injEq, true_and] at h1
  omega

theorem has_put {D : DataW Unit} (hm : IsMap D) (k k' : Int) (d : DataW Unit) : Go.Maps.has (D.put (.int .i64 k) d) (.int .i64 k') = (decide (k' = k) || Go.Maps.has D (.int .i64 k')) := by
  by_cases h : k' = k
  · subst h; simp [Go.Maps.has_put_same hm (isKey k') d]
  · rw [Go.Maps.has_put_other (lit_ne h) d]; simp [h]

theorem at_put {D : DataW Unit} (hm : IsMap D) (k k' : Int) (d z : DataW Unit) : (D.put (.int .i64 k) d).atKey (.int .i64 k') z = if k' = k then d else D.atKey (.int .i64 k') z := by
  by_cases h : k' = k
  · subst h; rw [if_pos rfl, Go.Maps.atKey_put_same hm (isKey k')]
  · rw [if_neg h, Go.Maps.atKey_put_other (lit_ne h)]

/-- The index, when two entries have changed their places. -/
def swapD (D : DataW Unit) (L : List En) (i k : Nat) : DataW Unit :=
  (D.put (.int .i64 (atE (swapL L i k) i).1) (.lit (.int .i64 i))).put (.int .i64 (atE (swapL L i k) k).1) (.lit (.int .i64 k))

theorem swapL_i (L : List En) (i k : Nat) (hi : i < L.length) (hk : k < L.length) : atE (swapL L i k) i = atE L k := by
  rw [swapL_at L i k hi hk i hi]; unfold swapF; rw [if_pos rfl]
theorem swapL_k (L : List En) (i k : Nat) (hi : i < L.length) (hk : k < L.length) : atE (swapL L i k) k = atE L i := by
  rw [swapL_at L i k hi hk k hk]; unfold swapF; split
  · rename_i e; rw [e]
  · rw [if_pos rfl]
theorem swapL_o (L : List En) (i k j : Nat) (hi : i < L.length) (hk : k < L.length) (hj : j < L.length) (h1 : j ≠ i) (h2 : j ≠ k) : atE (swapL L i k) j = atE L j := by
  rw [swapL_at L i k hi hk j hj]; unfold swapF; rw [if_neg h1, if_neg h2]

theorem Idx.swap {D : DataW Unit} {L : List En} (h : Idx D L) (ht : Tidy D) {i k : Nat} (hi : i < L.length) (hk : k < L.length) : Idx (swapD D L i k) (swapL L i k) := by
  have hm := ht.isMap
  have hm1 : IsMap (D.put (.int .i64 (atE L k).1) (.lit (.int .i64 i))) := hm.put _ _
  have ht1 : Tidy (D.put (.int .i64 (atE L k).1) (.lit (.int .i64 i))) := ht.put (isKey _) _
  have hik : (atE L k).1 = (atE L i).1 → k = i := fun e => h.inj hk hi e
  unfold swapD
  rw [swapL_i L i k hi hk, swapL_k L i k hi hk]
  refine ⟨?_, ?_, ?_, ?_, ?_⟩
  · rw [swapL_length, Go.Maps.size_put ht1, has_put hm, h.has i hi, Bool.or_true, if_pos rfl, Go.Maps.size_put ht, h.has k hk, if_pos rfl]
    exact h.size
  · intro j hj z
    rw [swapL_length] at hj
    rw [at_put hm1, at_put hm]
    by_cases h2 : j = k
    · subst h2; rw [swapL_k L i j hi hj, if_pos rfl]
    · by_cases h1 : j = i
      · subst h1
        rw [swapL_i L j k hj hk, if_pos rfl, if_neg (fun e => h2 (hik e).symm)]
      · rw [swapL_o L i k j hi hk hj h1 h2, if_neg (fun e => h1 (h.inj hj hi e)), if_neg (fun e => h2 (h.inj hj hk e))]
        exact h.at_ j hj z
  · intro j hj
    rw [swapL_length] at hj
    rw [has_put hm1, has_put hm]
    by_cases h2 : j = k
    · subst h2; rw [swapL_k L i j hi hj]; simp
    · by_cases h1 : j = i
      · subst h1; rw [swapL_i L j k hj hk]; simp
      · rw [swapL_o L i k j hi hk hj h1 h2, h.has j hj]; simp
  · intro x hx
    rw [swapL_length]
    rw [has_put hm1, has_put hm] at hx
    by_cases e1 : x = (atE L i).1
    · exact ⟨k, hk, by rw [swapL_k L i k hi hk, e1]⟩
    · by_cases e2 : x = (atE L k).1
      · exact ⟨i, hi, by rw [swapL_i L i k hi hk, e2]⟩
      · simp only [e1, e2, decide_false, Bool.false_or] at hx
        obtain ⟨j, hj, e⟩ := h.only x hx
        have h1 : j ≠ i := fun e' => e1 (by rw [← e, e'])
        have h2 : j ≠ k := fun e' => e2 (by rw [← e, e'])
        exact ⟨j, hj, by rw [swapL_o L i k j hi hk hj h1 h2, e]⟩
  · intro j hj
    rw [swapL_length] at hj
    by_cases h2 : j = k
    · subst h2; rw [swapL_k L i j hi hj]; exact h.range i hi
    · by_cases h1 : j = i
      · subst h1; rw [swapL_i L j k hj hk]; exact h.range k hk
      · rw [swapL_o L i k j hi hk hj h1 h2]; exact h.range j hj

/-- The index, when an entry of a key that is there stands by something else. -/
theorem Idx.put {D : DataW Unit} {L : List En} (h : Idx D L) (ht : Tidy D) {i : Nat} (hi : i < L.length) (b : Int) : Idx (D.put (.int .i64 (atE L i).1) (.lit (.int .i64 i))) (L.set i ((atE L i).1, b)) := by
  have hm := ht.isMap
  have hkey : ∀ j, (atE (L.set i ((atE L i).1, b)) j).1 = (atE L j).1 := by
    intro j
    by_cases e : j = i
    · subst e; simp [atE, hi]
    · simp [atE, List.getElem?_set, Ne.symm e]
  refine ⟨?_, ?_, ?_, ?_, ?_⟩
  · rw [List.length_set, Go.Maps.size_put ht, h.has i hi, if_pos rfl]; exact h.size
  · intro j hj z
    rw [List.length_set] at hj
    rw [hkey, at_put hm]
    by_cases e : j = i
    · subst e; rw [if_pos rfl]
    · rw [if_neg (fun x => e (h.inj hj hi x))]; exact h.at_ j hj z
  · intro j hj
    rw [List.length_set] at hj
    rw [hkey, has_put hm, h.has j hj]; simp
  · intro x hx
    rw [has_put hm] at hx
    rw [List.length_set]
    by_cases e : x = (atE L i).1
    · exact ⟨i, hi, by rw [hkey, e]⟩
    · simp only [e, decide_false, Bool.false_or] at hx
      obtain ⟨j, hj, e2⟩ := h.only x hx
      exact ⟨j, hj, by rw [hkey, e2]⟩
  · intro j hj
    rw [List.length_set] at hj
    rw [hkey]; exact h.range j hj

/-- The index, when an entry of a new key comes in behind all. -/
theorem Idx.push {D : DataW Unit} {L : List En} (h : Idx D L) (ht : Tidy D) {x : En} (hx : Go.Maps.has D (.int .i64 x.1) = false) (hr : I64 x.1) : Idx (D.put (.int .i64 x.1) (.lit (.int .i64 L.length))) (L ++ [x]) := by
  have hm := ht.isMap
  have hl : atE (L ++ [x]) L.length = x := by simp [atE]
  have ho : ∀ j, j < L.length → atE (L ++ [x]) j = atE L j := fun j hj => by simp [atE, List.getElem?_append_left hj]
  have hne : ∀ j, j < L.length → (atE L j).1 ≠ x.1 := fun j hj e => by have := h.has j hj; rw [e, hx] at this; cases this
  refine ⟨?_, ?_, ?_, ?_, ?_⟩
  · rw [Go.Maps.size_put ht, hx, h.size]; simp
  · intro j hj z
    rw [at_put hm]
    by_cases e : j = L.length
    · subst e; rw [hl, if_pos rfl]
    · have hj' : j < L.length := by simp at hj; omega
      rw [ho j hj', if_neg (hne j hj')]; exact h.at_ j hj' z
  · intro j hj
    rw [has_put hm]
    by_cases e : j = L.length
    · subst e; rw [hl]; simp
    · have hj' : j < L.length := by simp at hj; omega
      rw [ho j hj', h.has j hj']; simp
  · intro y hy
    rw [has_put hm] at hy
    by_cases e : y = x.1
    · exact ⟨L.length, by simp, by rw [hl, e]⟩
    · simp only [e, decide_false, Bool.false_or] at hy
      obtain ⟨j, hj, e2⟩ := h.only y hy
      exact ⟨j, by simp; omega, by rw [ho j hj, e2]⟩
  · intro j hj
    by_cases e : j = L.length
    · subst e; rw [hl]; exact hr
    · have hj' : j < L.length := by simp at hj; omega
      rw [ho j hj']; exact h.range j hj'

/-- The index, when the last entry is taken out. -/
theorem Idx.pop {D : DataW Unit} {L : List En} (h : Idx D L) (ht : Tidy D) (h0 : 0 < L.length) : Idx (D.del (.int .i64 (atE L (L.length - 1)).1)) (L.take (L.length - 1)) := by
  have hl : (L.take (L.length - 1)).length = L.length - 1 := by simp
  have ho : ∀ j, j < L.length - 1 → atE (L.take (L.length - 1)) j = atE L j := fun j hj => by
    have : j < L.length := by omega
    simp [atE, hj, this]
  have hne : ∀ j, j < L.length - 1 → (atE L j).1 ≠ (atE L (L.length - 1)).1 := fun j hj e => by have := h.inj (by omega) (by omega) e; omega
  refine ⟨?_, ?_, ?_, ?_, ?_⟩
  · have := Go.Maps.size_del (k := .int .i64 (atE L (L.length - 1)).1) ht
    rw [h.has _ (by omega), if_pos rfl, h.size] at this
    rw [hl]; omega
  · intro j hj z
    rw [hl] at hj
    rw [ho j hj, Go.Maps.atKey_del_other (lit_ne (hne j hj))]
    exact h.at_ j (by omega) z
  · intro j hj
    rw [hl] at hj
    rw [ho j hj, Go.Maps.has_del_other (lit_ne (hne j hj))]
    exact h.has j (by omega)
  · intro y hy
    by_cases e : y = (atE L (L.length - 1)).1
    · subst e
      rw [Go.Maps.has_del_same] at hy; cases hy
    · rw [Go.Maps.has_del_other (lit_ne e)] at hy
      obtain ⟨j, hj, e2⟩ := h.only y hy
      have hj' : j < L.length - 1 := by
        have : j ≠ L.length - 1 := fun e3 => e (by rw [← e2, e3])
        omega
      exact ⟨j, by rw [hl]; exact hj', by rw [ho j hj', e2]⟩
  · intro j hj
    rw [hl] at hj
    rw [ho j hj]; exact h.range j (by omega)

end Go.Proofs.Ytnhiohgcoifniaa
