/- Plain Lean: words written anew are the same words; a text cut off behind a word. No statement is proved here. -/
import Derived.Test.YtmoemnfflbielaaDoorT15
namespace Go.Proofs.YtmoemnfflbielaaDoor
open Go.RowKit Go.Gav Go.BigFrame Go.Shelf

/-- The words of a list, the last bytes of a text of M bytes. -/
inductive Toks (M : Nat) : List UInt8 → List Tok → Prop
  | last {l : List UInt8} (h : skipL false l = []) : Toks M l [⟨4, ByteArray.empty, 0, M⟩]
  | word {l : List UInt8} {c : UInt8} {r : List UInt8} {x : Key} {n : Nat} {ts : List Tok} (h : skipL false l = c :: r) (hn : nextL (c :: r) = (x, n, 0)) (ht : Toks M ((c :: r).drop n) ts) :
      Toks M l (x.tok (M - (c :: r).length) :: ts)

theorem skip_idem {l r : List UInt8} {c : UInt8} {m : Bool} (h : skipL m l = c :: r) : skipL false (c :: r) = c :: r := by
  obtain ⟨h1, h2⟩ := skipL_head h
  rw [skipL, if_neg (by simp [h1]), if_neg h2]

theorem Toks.of_skip {M : Nat} {l l' : List UInt8} {ts : List Tok} (h : Toks M l ts) (e : skipL false l' = skipL false l) : Toks M l' ts := by
  cases h with
  | last h => exact .last (by rw [e, h])
  | word h hn ht => exact .word (by rw [e, h]) hn ht

/-- A word is no end, and not longer than what is left. -/
theorem nextL_ok {c : UInt8} {r : List UInt8} {x : Key} {n : Nat} (h : nextL (c :: r) = (x, n, 0)) : x.kind ≠ 4 ∧ 1 ≤ n ∧ n ≤ (c :: r).length := by
  have nm : ∀ l : List UInt8, (nameL l).2 = 0 → 1 ≤ (nameL l).1.length ∧ (nameL l).1.length ≤ l.length := by
    intro l hl
    cases l with
    | nil => cases hl
    | cons c r =>
      rw [nameL_cons] at hl ⊢
      split at hl
      · rename_i h1
        rw [if_pos h1]
        split at hl
        · cases hl
        · rename_i h2
          rw [if_neg h2]
          refine ⟨?_, (List.takeWhile_sublist isWord).length_le⟩
          rw [List.takeWhile_cons, if_pos (by simp [isWord, h1])]
          simp
      · cases hl
  rw [nextL_cons] at h
  split at h
  · simp only [Prod.mk.injEq] at h
    obtain ⟨rfl, rfl, h3⟩ := h
    have := nm _ h3
    exact ⟨by simp, this.1, this.2⟩
  · split at h
    · rename_i hd
      simp only [Prod.mk.injEq] at h
      obtain ⟨rfl, rfl, h3⟩ := h
      rw [numL_cons] at h3 ⊢
      split at h3
      · cases h3
      · rename_i h1
        rw [if_neg h1]
        split at h3
        · cases h3
        · rename_i h2
          rw [if_neg h2]
          refine ⟨by simp, ?_, (List.takeWhile_sublist isDig).length_le⟩
          simp only
          rw [List.takeWhile_cons, if_pos hd]
          simp
    · split at h
      · simp only [Prod.mk.injEq] at h
        obtain ⟨rfl, rfl, h3⟩ := h
        have := nm _ h3
        exact ⟨by simp, by omega, by rw [List.length_cons]; omega⟩
      · split at h
        · rename_i hm
          simp only [Prod.mk.injEq] at h
          obtain ⟨rfl, rfl, h3⟩ := h
          obtain ⟨_, hp, h1⟩ := markAt_some hm
          exact ⟨by simp, h1, hp.length_le⟩
        · simp at h

/-- What Scan answers without an error are the words. -/
theorem toks_of_itemsF (s : ByteArray) : ∀ (f k : Nat), k ≤ s.size → (∀ x ∈ itemsF s f (gapTo s k), (x.2 != 0) = false) → s.size < f + gapTo s k → Toks s.size ((bys s).drop k) ((itemsF s f (gapTo s k)).map (·.1))
  | 0, k, hk, _, hf => by
    have := gap_le s k
    omega
  | f + 1, k, hk, hn, hf => by
    have hg := gap_le s k
    have hge := gap_ge hk
    have hdg := drop_gap s k
    have hsk : skipL false ((bys s).drop k) = (bys s).drop (gapTo s k) := hdg.symm
    rw [itemsF] at hn ⊢
    have he0 : (nextR s (gapTo s k)).2.2 = 0 := by
      apply Classical.byContradiction
      intro h
      rw [if_pos h] at hn
      have := hn _ (List.mem_singleton.2 rfl)
      simp [h] at this
    rw [if_neg (by simp [he0])] at hn ⊢
    have hq := nextR_eq s (gapTo s k) hg
    by_cases h4 : (nextR s (gapTo s k)).1.kind = 4
    · rw [if_pos h4] at hn ⊢
      have hks : gapTo s k = s.size := by
        apply Classical.byContradiction
        intro h
        have hlt : gapTo s k < s.size := by omega
        rw [hq, drop_byt s _ hlt] at h4 he0
        cases hx : nextL (byt s (gapTo s k) :: (bys s).drop (gapTo s k + 1)) with
        | mk x y =>
          obtain ⟨n, e⟩ := y
          rw [hx] at h4 he0
          simp only at he0
          subst he0
          exact (nextL_ok hx).1 h4
      have e1 : nextR s (gapTo s k) = (⟨4, ByteArray.empty, 0, s.size⟩, 0, 0) := by
        unfold nextR; rw [if_pos hks, hks]
      rw [e1]
      exact .last (by rw [hsk, hks, List.drop_eq_nil_of_le (by rw [bys_length]; omega)])
    · rw [if_neg h4] at hn ⊢
      obtain ⟨hlt, hn1, hn2⟩ := nextR_ok hg he0 h4
      have hd := drop_byt s _ hlt
      rw [hd] at hq hsk
      cases hx : nextL (byt s (gapTo s k) :: (bys s).drop (gapTo s k + 1)) with
      | mk x y =>
        obtain ⟨n, e⟩ := y
        rw [hx] at hq
        rw [hq] at he0 hn1 hn2 hn ⊢
        simp only at he0 hn1 hn2 hn ⊢
        subst he0
        have hlen : (byt s (gapTo s k) :: (bys s).drop (gapTo s k + 1)).length = s.size - gapTo s k := by
          rw [← hd, List.length_drop, bys_length]
        have hf2 : s.size < f + gapTo s (gapTo s k + n) := by have := gap_ge hn2; omega
        have ih := toks_of_itemsF s f (gapTo s k + n) hn2 (fun x hx => hn x (List.mem_cons_of_mem _ hx)) hf2
        have e2 : (bys s).drop (gapTo s k + n) = (byt s (gapTo s k) :: (bys s).drop (gapTo s k + 1)).drop n := by
          rw [← hd, List.drop_drop]
        rw [e2] at ih
        have := Toks.word hsk hx ih
        rw [hlen, show s.size - (s.size - gapTo s k) = gapTo s k by omega] at this
        exact this

theorem toks_of_scan {s : ByteArray} (he : (scanR s).2.2 = 0) : Toks s.size (bys s) (scanR s).1 := by
  cases hq : (items s).find? (fun x => x.2 != 0) with
  | some x =>
    unfold scanR at he
    rw [hq] at he
    have := List.find?_some hq
    simp only at he
    simp [he] at this
  | none =>
    have hn : ∀ x ∈ items s, (x.2 != 0) = false := fun x hx => by
      rw [List.find?_eq_none] at hq
      simpa using hq x hx
    have e : scanR s = ((items s).map (·.1), 0, 0) := by unfold scanR; rw [hq]
    rw [e]
    simp only
    unfold items at hn ⊢
    split at hn
    · rename_i h
      have := hn _ (List.mem_singleton.2 rfl)
      simp at this
    · rename_i h
      rw [if_neg h]
      have := toks_of_itemsF s (s.size + 1) 0 (Nat.zero_le _) hn (by omega)
      simpa using this

/-- The words are what Scan answers. -/
theorem itemsF_of_toks (s : ByteArray) : ∀ (f k : Nat) (ts : List Tok), k ≤ s.size → Toks s.size ((bys s).drop k) ts → s.size < f + gapTo s k → itemsF s f (gapTo s k) = ts.map fun t => (t, 0)
  | 0, k, ts, hk, _, hf => by
    have := gap_le s k
    omega
  | f + 1, k, ts, hk, ht, hf => by
    have hg := gap_le s k
    have hge := gap_ge hk
    have hdg := drop_gap s k
    have hq := nextR_eq s (gapTo s k) hg
    cases ht with
    | last h =>
      rw [h] at hdg
      have hks : gapTo s k = s.size := by
        have := congrArg List.length hdg
        rw [List.length_drop, bys_length] at this
        simp at this
        omega
      have e1 : nextR s (gapTo s k) = (⟨4, ByteArray.empty, 0, s.size⟩, 0, 0) := by
        unfold nextR; rw [if_pos hks, hks]
      rw [itemsF, e1]
      rfl
    | word h hn ht =>
      rename_i c r x n ts
      rw [h] at hdg
      rw [hdg, hn] at hq
      have hlen := congrArg List.length hdg
      rw [List.length_drop, bys_length] at hlen
      obtain ⟨h4, hn1, hn2⟩ := nextL_ok hn
      have e2 : (c :: r).drop n = (bys s).drop (gapTo s k + n) := by
        rw [← hdg, List.drop_drop]
      have hle : gapTo s k + n ≤ s.size := by omega
      have hf2 : s.size < f + gapTo s (gapTo s k + n) := by have := gap_ge hle; omega
      rw [e2] at ht
      have ih := itemsF_of_toks s f (gapTo s k + n) ts hle ht hf2
      rw [itemsF, hq]
      simp only
      rw [if_neg (by simp), if_neg (by simpa [Key.tok] using h4), ih, List.map_cons]
      rw [show s.size - (c :: r).length = gapTo s k by omega]

theorem scan_of_toks {s : ByteArray} {ts : List Tok} (hs : s.size ≤ 16384) (h : Toks s.size (bys s) ts) : scanR s = (ts, 0, 0) := by
  have e : items s = ts.map fun t => (t, 0) := by
    unfold items
    rw [if_neg (by omega)]
    exact itemsF_of_toks s (s.size + 1) 0 ts (Nat.zero_le _) (by simpa using h) (by omega)
  unfold scanR
  rw [e]
  have : (ts.map fun t => ((t, 0) : Tok × Nat)).find? (fun x => x.2 != 0) = none := by
    rw [List.find?_eq_none]
    intro x hx
    obtain ⟨t, _, rfl⟩ := List.mem_map.1 hx
    simp
  rw [this]
  simp only [List.map_map]
  have e2 : ((fun x : Tok × Nat => x.1) ∘ fun t => ((t, 0) : Tok × Nat)) = id := rfl
  rw [e2, List.map_id]

end Go.Proofs.YtmoemnfflbielaaDoor
