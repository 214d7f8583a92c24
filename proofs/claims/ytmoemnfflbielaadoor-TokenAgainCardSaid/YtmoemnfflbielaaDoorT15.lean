/- Plain Lean: the words of a list of bytes; words written anew; a text cut off. No statement is proved here. -/
import Derived.Test.YtmoemnfflbielaaDoorT11
import Derived.Test.YtmoemnfflbielaaDoorT8
namespace Go.Proofs.YtmoemnfflbielaaDoor
open Go.RowKit Go.Gav Go.BigFrame Go.Shelf

def maxI : Nat := 9223372036854775807
def nameL : List UInt8 → List UInt8 × Nat
  | [] => ([], 5)
  | c :: r => if isLet c = true then (if ((c :: r).takeWhile isWord).length > 16 then ([], 9) else ((c :: r).takeWhile isWord, 0)) else ([], 5)
def numL : List UInt8 → Nat × Nat × Nat
  | [] => (0, 0, 6)
  | c :: r => if c.toNat = 48 ∧ 1 < ((c :: r).takeWhile isDig).length then (0, 0, 6) else if numVal ((c :: r).takeWhile isDig) > maxI then (0, 0, 2) else (numVal ((c :: r).takeWhile isDig), ((c :: r).takeWhile isDig).length, 0)

/-- A word's kind, text, number. -/
structure Key where
  kind : Nat
  S : List UInt8
  N : Nat

/-- The word that a list begins with; its length; the error. -/
def nextL : List UInt8 → Key × Nat × Nat
  | [] => (⟨4, [], 0⟩, 0, 0)
  | c :: r =>
    if isLet c = true then (⟨0, (nameL (c :: r)).1, 0⟩, (nameL (c :: r)).1.length, (nameL (c :: r)).2)
    else if isDig c = true then (⟨1, [], (numL (c :: r)).1⟩, (numL (c :: r)).2.1, (numL (c :: r)).2.2)
    else if c.toNat = 39 then (⟨2, (nameL r).1, 0⟩, 1 + (nameL r).1.length, (nameL r).2)
    else match markAt (c :: r) with
      | some m => (⟨3, m, 0⟩, m.length, 0)
      | none => (⟨0, [], 0⟩, 0, 5)

theorem nameL_cons (c : UInt8) (r : List UInt8) : nameL (c :: r) = if isLet c = true then (if ((c :: r).takeWhile isWord).length > 16 then ([], 9) else ((c :: r).takeWhile isWord, 0)) else ([], 5) := rfl
theorem numL_cons (c : UInt8) (r : List UInt8) : numL (c :: r) = if c.toNat = 48 ∧ 1 < ((c :: r).takeWhile isDig).length then (0, 0, 6) else if numVal ((c :: r).takeWhile isDig) > maxI then (0, 0, 2) else (numVal ((c :: r).takeWhile isDig), ((c :: r).takeWhile isDig).length, 0) := rfl
theorem nextL_cons (c : UInt8) (r : List UInt8) : nextL (c :: r) =
    if isLet c = true then (⟨0, (nameL (c :: r)).1, 0⟩, (nameL (c :: r)).1.length, (nameL (c :: r)).2)
    else if isDig c = true then (⟨1, [], (numL (c :: r)).1⟩, (numL (c :: r)).2.1, (numL (c :: r)).2.2)
    else if c.toNat = 39 then (⟨2, (nameL r).1, 0⟩, 1 + (nameL r).1.length, (nameL r).2)
    else match markAt (c :: r) with
      | some m => (⟨3, m, 0⟩, m.length, 0)
      | none => (⟨0, [], 0⟩, 0, 5) := rfl

def Key.tok (x : Key) (k : Nat) : Tok := ⟨x.kind, ⟨x.S.toArray⟩, x.N, k⟩

theorem mk_nil : mk [] = ByteArray.empty := rfl

theorem run_len (s : ByteArray) (p : UInt8 → Bool) (k : Nat) : run s p k - k = (((bys s).drop k).takeWhile p).length := by
  unfold run; omega

theorem mid_run (s : ByteArray) (p : UInt8 → Bool) (k : Nat) : mid s k (run s p k) = ((bys s).drop k).takeWhile p := by
  unfold mid
  rw [run_len]
  have := List.takeWhile_append_dropWhile (p := p) (l := (bys s).drop k)
  conv => lhs; arg 2; rw [← this]
  rw [List.take_left]

theorem nameR_eq (s : ByteArray) (k : Nat) : nameR s k = (mk (nameL ((bys s).drop k)).1, (nameL ((bys s).drop k)).2) := by
  by_cases hk : k < s.size
  · have hd := drop_byt s k hk
    rw [hd]
    unfold nameR
    rw [nameL_cons]
    by_cases hl : isLet (byt s k) = true
    · rw [if_pos ⟨hk, hl⟩, if_pos hl, run_len, hd]
      split
      · rfl
      · rw [extract_mid, mid_run, hd]; rfl
    · rw [if_neg (fun h => hl h.2), if_neg hl]; rfl
  · have hd : (bys s).drop k = [] := List.drop_eq_nil_of_le (by rw [bys_length]; omega)
    rw [hd]
    unfold nameR
    rw [if_neg (fun h => hk h.1)]; rfl

theorem numR_eq (s : ByteArray) (k : Nat) (hk : k < s.size) : numR s k = numL ((bys s).drop k) := by
  have hd := drop_byt s k hk
  rw [hd]
  unfold numR
  rw [numL_cons]
  have e : (k + 1 < run s isDig k) ↔ 1 < (((bys s).drop k).takeWhile isDig).length := by
    unfold run; omega
  simp only [e, mid_run, run_len, hd]
  rfl

theorem nextR_eq (s : ByteArray) (k : Nat) (hk : k ≤ s.size) : nextR s k = ((nextL ((bys s).drop k)).1.tok k, (nextL ((bys s).drop k)).2.1, (nextL ((bys s).drop k)).2.2) := by
  by_cases h0 : k = s.size
  · have hd : (bys s).drop k = [] := List.drop_eq_nil_of_le (by rw [bys_length]; omega)
    rw [hd]
    unfold nextR
    rw [if_pos h0]; rfl
  · have hlt : k < s.size := by omega
    have hn1 := nameR_eq s k
    have hn2 := nameR_eq s (k + 1)
    have hn3 := numR_eq s k hlt
    have hd := drop_byt s k hlt
    unfold nextR
    rw [if_neg h0, hn1, hn2, hn3, hd]
    rw [nextL_cons]
    split
    · simp only [mk_size]; rfl
    · split
      · rfl
      · split
        · simp only [mk_size]; rfl
        · cases markAt (byt s k :: (bys s).drop (k + 1)) with
          | some m => rfl
          | none => rfl

end Go.Proofs.YtmoemnfflbielaaDoor
