/- Plain Lean on texts: what lies between words; names; numbers. No statement is proved here. -/
import Derived.Test.YtmoemnfflbielaaDoorT0
namespace Go.Gav
open Go

def isBlank (c : UInt8) : Bool := c.toNat == 32 || c.toNat == 9 || c.toNat == 10

/-- A text without the blanks and remarks ahead of its first word; true: within a remark. -/
def skipL : Bool → List UInt8 → List UInt8
  | _, [] => []
  | false, c :: r => if isBlank c then skipL false r else if c.toNat = 35 then skipL true r else c :: r
  | true, c :: r => if c.toNat = 10 then skipL false r else skipL true r

theorem skipL_nil (m : Bool) : skipL m [] = [] := by cases m <;> rfl

theorem skipL_true (l : List UInt8) : skipL true l = skipL false (l.dropWhile notNl) := by
  induction l with
  | nil => rfl
  | cons c r ih =>
    by_cases h : c.toNat = 10
    · rw [skipL, if_pos h, List.dropWhile_cons, if_neg (by simp [notNl, h]), skipL, if_pos (by simp [isBlank, h])]
    · rw [skipL, if_neg h, List.dropWhile_cons, if_pos (by simp [notNl, h]), ih]

theorem skipL_suffix : ∀ (m : Bool) (l : List UInt8), ∃ p, l = p ++ skipL m l := by
  intro m l
  induction l generalizing m with
  | nil => exact ⟨[], by cases m <;> rfl⟩
  | cons c r ih =>
    cases m with
    | false =>
      rw [skipL]
      split
      · obtain ⟨p, hp⟩ := ih false; exact ⟨c :: p, by rw [List.cons_append, ← hp]⟩
      · split
        · obtain ⟨p, hp⟩ := ih true; exact ⟨c :: p, by rw [List.cons_append, ← hp]⟩
        · exact ⟨[], rfl⟩
    | true =>
      rw [skipL]
      split
      · obtain ⟨p, hp⟩ := ih false; exact ⟨c :: p, by rw [List.cons_append, ← hp]⟩
      · obtain ⟨p, hp⟩ := ih true; exact ⟨c :: p, by rw [List.cons_append, ← hp]⟩

theorem skipL_le (m : Bool) (l : List UInt8) : (skipL m l).length ≤ l.length := by
  obtain ⟨p, hp⟩ := skipL_suffix m l
  have := congrArg List.length hp
  simp at this
  omega

theorem skipL_head {l r : List UInt8} {c : UInt8} {m : Bool} (h : skipL m l = c :: r) : isBlank c = false ∧ c.toNat ≠ 35 := by
  induction l generalizing m with
  | nil => cases m <;> cases h
  | cons d t ih =>
    cases m with
    | false =>
      rw [skipL] at h
      split at h
      · exact ih h
      · rename_i h1
        split at h
        · exact ih h
        · rename_i h2
          cases h
          exact ⟨by simpa using h1, h2⟩
    | true =>
      rw [skipL] at h
      split at h
      · exact ih h
      · exact ih h

/-- Where the next word begins. -/
def gapTo (s : ByteArray) (k : Nat) : Nat := s.size - (skipL false ((bys s).drop k)).length

theorem gap_end {s : ByteArray} {k : Nat} (h : k = s.size) : gapTo s k = k := by
  unfold gapTo
  rw [List.drop_eq_nil_of_le (by rw [bys_length]; omega)]
  simp [skipL, h]
theorem gap_blank {s : ByteArray} {k : Nat} (h : k < s.size) (hc : isBlank (byt s k) = true) : gapTo s k = gapTo s (k + 1) := by
  unfold gapTo
  rw [drop_byt s k h, skipL, if_pos hc]
theorem drop_while (p : UInt8 → Bool) : ∀ l : List UInt8, l.drop (l.takeWhile p).length = l.dropWhile p
  | [] => rfl
  | c :: r => by
    rw [List.takeWhile_cons, List.dropWhile_cons]
    split
    · exact drop_while p r
    · rfl
theorem mem_while {p : UInt8 → Bool} {c : UInt8} : ∀ {l : List UInt8}, c ∈ l.takeWhile p → p c = true
  | [], h => by cases h
  | d :: r, h => by
    rw [List.takeWhile_cons] at h
    split at h
    · rcases List.mem_cons.1 h with rfl | h
      · assumption
      · exact mem_while h
    · cases h
theorem drop_run (s : ByteArray) (p : UInt8 → Bool) (k : Nat) : (bys s).drop (run s p k) = ((bys s).drop k).dropWhile p := by
  rw [← drop_while, List.drop_drop]
  rfl
theorem gap_hash {s : ByteArray} {k : Nat} (h : k < s.size) (hc : (byt s k).toNat = 35) : gapTo s k = gapTo s (run s notNl k) := by
  have hb : isBlank (byt s k) = false := by simp [isBlank, hc]
  have hn : notNl (byt s k) = true := by simp [notNl, hc]
  unfold gapTo
  rw [drop_run, drop_byt s k h, skipL, if_neg (by simp [hb]), if_pos hc, skipL_true, List.dropWhile_cons, if_pos hn]
theorem gap_stop {s : ByteArray} {k : Nat} (h : k < s.size) (hb : isBlank (byt s k) = false) (hc : (byt s k).toNat ≠ 35) : gapTo s k = k := by
  unfold gapTo
  rw [drop_byt s k h, skipL, if_neg (by simp [hb]), if_neg hc, ← drop_byt s k h, List.length_drop, bys_length]
  omega
theorem drop_gap (s : ByteArray) (k : Nat) : (bys s).drop (gapTo s k) = skipL false ((bys s).drop k) := by
  obtain ⟨p, hp⟩ := skipL_suffix false ((bys s).drop k)
  have h1 : bys s = ((bys s).take k ++ p) ++ skipL false ((bys s).drop k) := by
    rw [List.append_assoc, ← hp, List.take_append_drop]
  have h2 := congrArg List.length h1
  simp only [List.length_append, bys_length] at h2
  unfold gapTo
  have e : s.size - (skipL false ((bys s).drop k)).length = ((bys s).take k ++ p).length := by
    rw [List.length_append]; omega
  rw [e]
  have h3 := congrArg (List.drop ((bys s).take k ++ p).length) h1
  rwa [List.drop_left] at h3
theorem gap_le (s : ByteArray) (k : Nat) : gapTo s k ≤ s.size := Nat.sub_le _ _
theorem gap_ge {s : ByteArray} {k : Nat} (h : k ≤ s.size) : k ≤ gapTo s k := by
  have h1 := skipL_le false ((bys s).drop k)
  rw [List.length_drop, bys_length] at h1
  unfold gapTo
  omega

/-! ### Numbers -/
def numVal (l : List UInt8) : Nat := l.foldl (fun n c => 10 * n + (c.toNat - 48)) 0
theorem numVal_snoc (l : List UInt8) (c : UInt8) : numVal (l ++ [c]) = 10 * numVal l + (c.toNat - 48) := by simp [numVal]
theorem numVal_le : ∀ (m l : List UInt8), numVal l ≤ numVal (l ++ m)
  | [], l => by simp
  | c :: m, l => by
    have h := numVal_le m (l ++ [c])
    rw [numVal_snoc, List.append_assoc] at h
    simp only [List.singleton_append] at h
    omega

/-- The bytes from k on, ahead of i. -/
def mid (s : ByteArray) (k i : Nat) : List UInt8 := ((bys s).drop k).take (i - k)
theorem mid_self (s : ByteArray) (k : Nat) : mid s k k = [] := by simp [mid]
theorem mid_snoc (s : ByteArray) (k i : Nat) (hk : k ≤ i) (hi : i < s.size) : mid s k (i + 1) = mid s k i ++ [byt s i] := by
  unfold mid
  have h2 : i - k < ((bys s).drop k).length := by rw [List.length_drop, bys_length]; omega
  rw [show i + 1 - k = (i - k) + 1 by omega, List.take_succ_eq_append_getElem h2]
  have h3 : i < (bys s).length := by rw [bys_length]; exact hi
  simp [byt, h3, show k + (i - k) = i by omega]
theorem mid_pre (s : ByteArray) (k i j : Nat) (hij : i ≤ j) : ∃ m, mid s k j = mid s k i ++ m := by
  unfold mid
  refine ⟨(((bys s).drop k).take (j - k)).drop (i - k), ?_⟩
  have : ((bys s).drop k).take (i - k) = (((bys s).drop k).take (j - k)).take (i - k) := by
    rw [List.take_take, Nat.min_eq_left (by omega)]
  rw [this, List.take_append_drop]
theorem numVal_mid_le (s : ByteArray) (k i j : Nat) (hij : i ≤ j) : numVal (mid s k i) ≤ numVal (mid s k j) := by
  obtain ⟨m, hm⟩ := mid_pre s k i j hij
  rw [hm]
  exact numVal_le _ _
theorem extract_mid (s : ByteArray) (k i : Nat) : s.extract k i = ⟨(mid s k i).toArray⟩ := Lib.extract_eq s k i
theorem mid_length (s : ByteArray) (k i : Nat) (hi : i ≤ s.size) : (mid s k i).length = i - k := by
  simp only [mid, List.length_take, List.length_drop, bys_length]
  omega
theorem in_run {s : ByteArray} {p : UInt8 → Bool} {k i : Nat} (hk : k ≤ i) (hi : i < run s p k) : i < s.size ∧ p (byt s i) = true := by
  unfold run at hi
  have hl : i - k < (((bys s).drop k).takeWhile p).length := by omega
  have h1 := List.getElem_mem hl
  have h2 := mem_while h1
  have hsub := (List.takeWhile_prefix p (l := (bys s).drop k))
  obtain ⟨t, ht⟩ := hsub
  have hlen := congrArg List.length ht
  rw [List.length_append, List.length_drop, bys_length] at hlen
  have hi2 : i < s.size := by omega
  refine ⟨hi2, ?_⟩
  have h3 : (((bys s).drop k).takeWhile p)[i - k] = byt s i := by
    have e1 : (((bys s).drop k).takeWhile p)[i - k]? = ((bys s).drop k)[i - k]? := by
      conv => rhs; rw [← ht]
      rw [List.getElem?_append_left hl]
    rw [List.getElem?_eq_getElem hl] at e1
    have h4 : i < (bys s).length := by rw [bys_length]; exact hi2
    rw [List.getElem?_drop, show k + (i - k) = i by omega, List.getElem?_eq_getElem h4] at e1
    have e2 := Option.some.inj e1
    rw [e2]
    simp [byt, h4]
  rw [h3] at h2
  exact h2

end Go.Gav
