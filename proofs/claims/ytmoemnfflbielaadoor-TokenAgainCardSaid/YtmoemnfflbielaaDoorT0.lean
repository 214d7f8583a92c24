/- Plain Lean on texts: bytes, runs of bytes that are so. No statement is proved here. -/
import Derived.WalkKit
import Derived.Lib.Strings
namespace Go.Gav
open Go

/-- The bytes of a text. -/
def bys (s : ByteArray) : List UInt8 := s.data.toList
theorem bys_length (s : ByteArray) : (bys s).length = s.size := (Lib.size_eq s).symm
/-- The byte at a place. -/
def byt (s : ByteArray) (i : Nat) : UInt8 := (bys s).getD i 0
theorem byt_get (s : ByteArray) (i : Nat) (h : i < s.size) : s[i] = byt s i := by
  have h2 : i < s.data.size := h
  have h3 : s.data[i]? = some s.data[i] := Array.getElem?_eq_getElem h2
  simp [byt, bys, ByteArray.getElem_eq_getElem_data]
  rw [h3]; rfl

theorem drop_byt (s : ByteArray) (i : Nat) (h : i < s.size) : (bys s).drop i = byt s i :: (bys s).drop (i + 1) := by
  have h2 : i < (bys s).length := by rw [bys_length]; exact h
  rw [List.drop_eq_getElem_cons h2]
  congr 1
  simp [byt, h2]

/-- The first place from k on at which the byte is not so; or the text's end. -/
def run (s : ByteArray) (p : UInt8 → Bool) (k : Nat) : Nat := k + (((bys s).drop k).takeWhile p).length
theorem run_step {s : ByteArray} {p : UInt8 → Bool} {k : Nat} (h : k < s.size) (hp : p (byt s k) = true) : run s p (k + 1) = run s p k := by
  unfold run
  rw [drop_byt s k h, List.takeWhile_cons, if_pos hp, List.length_cons]
  omega
theorem run_stop {s : ByteArray} {p : UInt8 → Bool} {k : Nat} (h : k < s.size) (hp : p (byt s k) = false) : run s p k = k := by
  unfold run
  rw [drop_byt s k h, List.takeWhile_cons, if_neg (by simp [hp])]
  rfl
theorem run_end {s : ByteArray} {p : UInt8 → Bool} {k : Nat} (h : s.size ≤ k) : run s p k = k := by
  unfold run
  rw [List.drop_eq_nil_of_le (by rw [bys_length]; exact h)]
  rfl
theorem run_ge (s : ByteArray) (p : UInt8 → Bool) (k : Nat) : k ≤ run s p k := Nat.le_add_right _ _
theorem run_le {s : ByteArray} {p : UInt8 → Bool} {k : Nat} (h : k ≤ s.size) : run s p k ≤ s.size := by
  unfold run
  have h1 := (List.takeWhile_sublist p (l := (bys s).drop k)).length_le
  rw [List.length_drop, bys_length] at h1
  omega

/-! ### Letters and digits -/
def isLet (c : UInt8) : Bool := decide (97 ≤ c.toNat) && decide (c.toNat ≤ 122)
def isDig (c : UInt8) : Bool := decide (48 ≤ c.toNat) && decide (c.toNat ≤ 57)
def isWord (c : UInt8) : Bool := isLet c || isDig c
def notNl (c : UInt8) : Bool := !(c.toNat == 10)

end Go.Gav
