/- Plain Lean: all words written anew are the same words; where words begin; a text cut off behind a word. No statement is proved here. -/
import Derived.Test.YtmoemnfflbielaaDoorT17
namespace Go.Proofs.YtmoemnfflbielaaDoor
open Go.RowKit Go.Gav Go.BigFrame Go.Shelf

/-- A word's text. -/
def textT (t : Tok) : List UInt8 := if t.kind = 1 then decL t.N else if t.kind = 2 then 39 :: bys t.S else bys t.S
theorem textT_tok (x : Key) (k : Nat) : textT (x.tok k) = x.text := rfl

def gapL (line : Bool) : List UInt8 := if line then [35, 120, 10] else [32]
/-- The words anew. -/
def againL (line : Bool) : List Tok → List UInt8
  | [] => []
  | t :: ts => textT t ++ gapL line ++ againL line ts
theorem againL_append (line : Bool) : ∀ a b, againL line (a ++ b) = againL line a ++ againL line b
  | [], b => rfl
  | t :: a, b => by rw [List.cons_append, againL, againL, againL_append line a b]; simp only [List.append_assoc]

theorem skip_gap (line : Bool) (Y : List UInt8) : skipL false (gapL line ++ Y) = skipL false Y := by
  cases line with
  | true => simp [gapL, skipL, isBlank]
  | false => simp [gapL, skipL, isBlank]

def keyT (t : Tok) : Nat × ByteArray × Nat := (t.kind, t.S, t.N)

theorem again_toks (line : Bool) {M : Nat} {l : List UInt8} {ts : List Tok} (h : Toks M l ts) (M' : Nat) : ∃ ts', Toks M' (againL line ts) ts' ∧ ts'.map keyT = ts.map keyT := by
  induction h with
  | last h =>
    refine ⟨_, .last ?_, rfl⟩
    have := skip_gap line []
    rw [List.append_nil] at this
    have e : textT ⟨4, ByteArray.empty, 0, M⟩ = [] := rfl
    rw [againL, e, againL, List.append_nil, List.nil_append, this]
    rfl
  | @word l c r x n ts h hn ht ih =>
    obtain ⟨ts', h1, h2⟩ := ih
    rw [againL, textT_tok]
    obtain ⟨g, Y, hg, hgY⟩ : ∃ g Y, (g = 32 ∨ g = 35) ∧ gapL line = g :: Y := by
      cases line with
      | true => exact ⟨35, [120, 10], .inr rfl, rfl⟩
      | false => exact ⟨32, [], .inl rfl, rfl⟩
    obtain ⟨w1, c', r', w2, w3, w4⟩ := word_again hn hg (Y ++ againL line ts)
    have e : x.text ++ gapL line ++ againL line ts = x.text ++ g :: (Y ++ againL line ts) := by
      rw [hgY]; simp
    have hsk : skipL false (x.text ++ g :: (Y ++ againL line ts)) = c' :: (r' ++ g :: (Y ++ againL line ts)) := by
      rw [w2, List.cons_append, skipL, if_neg (by simp [w3]), if_neg w4]
    rw [e]
    rw [w2, List.cons_append] at w1
    have hd : (c' :: (r' ++ g :: (Y ++ againL line ts))).drop (c' :: r').length = gapL line ++ againL line ts := by
      rw [← List.cons_append, List.drop_left, hgY]; rfl
    exact ⟨_, .word hsk w1 (by rw [hd]; exact h1.of_skip (skip_gap line _)), by rw [List.map_cons, List.map_cons, h2]; rfl⟩

/-- Where words begin. -/
theorem toks_order {M : Nat} {l : List UInt8} {ts : List Tok} (h : Toks M l ts) (hM : l.length ≤ M) :
    1 ≤ ts.length ∧ ∀ i, i < ts.length → (i + 1 = ts.length → atT ts i = ⟨4, ByteArray.empty, 0, M⟩) ∧ (i + 1 < ts.length → (atT ts i).kind ≠ 4 ∧ (atT ts i).At < (atT ts (i + 1)).At) ∧ M - l.length ≤ (atT ts i).At ∧ (atT ts i).At ≤ M := by
  induction h with
  | last h =>
    refine ⟨by simp, fun i hi => ?_⟩
    obtain rfl : i = 0 := by simpa using hi
    exact ⟨fun _ => rfl, fun h => by simp at h, Nat.sub_le _ _, Nat.le_refl _⟩
  | @word l c r x n ts h hn ht ih =>
    obtain ⟨h4, hn1, hn2⟩ := nextL_ok hn
    have hle := skipL_le false l
    rw [h] at hle
    have hdl : ((c :: r).drop n).length = (c :: r).length - n := List.length_drop
    obtain ⟨ih1, ih2⟩ := ih (by omega)
    refine ⟨by simp, fun i hi => ?_⟩
    cases i with
    | zero =>
      obtain ⟨_, _, q3, _⟩ := ih2 0 (by omega)
      have e0 : atT (x.tok (M - (c :: r).length) :: ts) 0 = x.tok (M - (c :: r).length) := rfl
      have e1 : atT (x.tok (M - (c :: r).length) :: ts) (0 + 1) = atT ts 0 := rfl
      rw [e0, e1]
      have hA : (x.tok (M - (c :: r).length)).At = M - (c :: r).length := rfl
      rw [hA]
      exact ⟨fun h => by rw [List.length_cons] at h; omega, fun _ => ⟨h4, by omega⟩, by omega, by omega⟩
    | succ i =>
      obtain ⟨q1, q2, q3, q4⟩ := ih2 i (by simpa using hi)
      have e0 : ∀ j, atT (x.tok (M - (c :: r).length) :: ts) (j + 1) = atT ts j := fun _ => rfl
      rw [e0, e0]
      exact ⟨fun h => q1 (by simpa using h), fun h => q2 (by simpa using h), by omega, q4⟩

/-! ### A text cut off -/
theorem skip_pre {c : UInt8} {r r' : List UInt8} : ∀ (pre : List UInt8) (m : Bool), skipL m (pre ++ c :: r) = c :: r → skipL m (pre ++ c :: r') = c :: r'
  | [], false, h => by
    obtain ⟨h1, h2⟩ := skipL_head h
    rw [List.nil_append, skipL, if_neg (by simp [h1]), if_neg h2]
  | [], true, h => by
    rw [List.nil_append, skipL] at h
    split at h
    · have := skipL_le false r
      rw [h] at this; simp at this; omega
    · have := skipL_le true r
      rw [h] at this; simp at this; omega
  | a :: pre, false, h => by
    rw [List.cons_append, skipL] at h ⊢
    split
    · rename_i h1; rw [if_pos h1] at h; exact skip_pre pre false h
    · rename_i h1
      rw [if_neg h1] at h
      split
      · rename_i h2; rw [if_pos h2] at h; exact skip_pre pre true h
      · rename_i h2
        rw [if_neg h2] at h
        have := congrArg List.length h
        simp at this
        omega
  | a :: pre, true, h => by
    rw [List.cons_append, skipL] at h ⊢
    split
    · rename_i h1; rw [if_pos h1] at h; exact skip_pre pre false h
    · rename_i h1; rw [if_neg h1] at h; exact skip_pre pre true h

theorem skip_take {l r : List UInt8} {c : UInt8} (h : skipL false l = c :: r) {m : Nat} (hm : 1 ≤ m) : skipL false (l.take (l.length - (c :: r).length + m)) = (c :: r).take m := by
  obtain ⟨pre, hp⟩ := skipL_suffix false l
  rw [h] at hp
  obtain ⟨m, rfl⟩ : ∃ m', m = m' + 1 := ⟨m - 1, by omega⟩
  have hl := congrArg List.length hp
  rw [List.length_append] at hl
  have e : l.take (l.length - (c :: r).length + (m + 1)) = pre ++ c :: r.take m := by
    rw [show l.length - (c :: r).length + (m + 1) = pre.length + (m + 1) by omega]
    conv => lhs; rw [hp]
    rw [List.take_append, List.take_of_length_le (by omega), show pre.length + (m + 1) - pre.length = m + 1 by omega, List.take_succ_cons]
  rw [e, List.take_succ_cons]
  exact skip_pre pre false (by rw [← hp]; exact h)

theorem toks_cut {M : Nat} {l : List UInt8} {ts : List Tok} (h : Toks M l ts) (hM : l.length ≤ M) (n : Nat) (hn : n + 1 < ts.length) :
    M - l.length ≤ (atT ts n).At + (textT (atT ts n)).length ∧ (atT ts n).At + (textT (atT ts n)).length ≤ M ∧
    Toks ((atT ts n).At + (textT (atT ts n)).length) (l.take ((atT ts n).At + (textT (atT ts n)).length - (M - l.length))) (ts.take (n + 1) ++ [⟨4, ByteArray.empty, 0, (atT ts n).At + (textT (atT ts n)).length⟩]) := by
  induction h generalizing n with
  | last h => simp at hn
  | @word l c r x k ts h hx ht ih =>
    obtain ⟨h4, hk1, hk2⟩ := nextL_ok hx
    have hle := skipL_le false l
    rw [h] at hle
    have hdl : ((c :: r).drop k).length = (c :: r).length - k := List.length_drop
    cases n with
    | zero =>
      have e0 : atT (x.tok (M - (c :: r).length) :: ts) 0 = x.tok (M - (c :: r).length) := rfl
      have hA : (x.tok (M - (c :: r).length)).At = M - (c :: r).length := rfl
      obtain ⟨w1, w2⟩ := word_cut hx (Nat.le_refl k)
      rw [e0, hA, textT_tok, w2]
      refine ⟨by omega, by omega, ?_⟩
      rw [show M - (c :: r).length + k - (M - l.length) = l.length - (c :: r).length + k by omega]
      obtain ⟨k, rfl⟩ : ∃ k', k = k' + 1 := ⟨k - 1, by omega⟩
      have hs := skip_take h hk1
      rw [List.take_succ_cons] at hs w1
      have hlen : (c :: r.take k).length = k + 1 := by
        rw [List.length_cons, List.length_take]
        rw [List.length_cons] at hk2
        omega
      have hd : (c :: r.take k).drop (k + 1) = [] := List.drop_eq_nil_of_le (by omega)
      have := Toks.word (M := M - (c :: r).length + (k + 1)) (ts := [⟨4, ByteArray.empty, 0, M - (c :: r).length + (k + 1)⟩]) hs w1 (by rw [hd]; exact .last rfl)
      rw [hlen, show M - (c :: r).length + (k + 1) - (k + 1) = M - (c :: r).length by omega] at this
      exact this
    | succ n =>
      obtain ⟨i1, i2, i3⟩ := ih (by omega) n (by simpa using hn)
      have e0 : atT (x.tok (M - (c :: r).length) :: ts) (n + 1) = atT ts n := rfl
      rw [e0]
      obtain ⟨C, hC⟩ : ∃ C, C = (atT ts n).At + (textT (atT ts n)).length := ⟨_, rfl⟩
      rw [← hC] at i1 i2 i3 ⊢
      refine ⟨by omega, i2, ?_⟩
      have hs := skip_take h (m := C - (M - (c :: r).length)) (by omega)
      rw [show C - (M - l.length) = l.length - (c :: r).length + (C - (M - (c :: r).length)) by omega]
      obtain ⟨w1, -⟩ := word_cut hx (q := C - (M - (c :: r).length)) (by omega)
      have hd : ((c :: r).take (C - (M - (c :: r).length))).drop k = ((c :: r).drop k).take (C - (M - ((c :: r).drop k).length)) := by
        rw [List.drop_take, hdl]
        congr 1
        omega
      rw [← hd] at i3
      obtain ⟨q, hq⟩ : ∃ q, C - (M - (c :: r).length) = q + 1 := ⟨C - (M - (c :: r).length) - 1, by omega⟩
      have hlen : ((c :: r).take (C - (M - (c :: r).length))).length = C - (M - (c :: r).length) := by
        rw [List.length_take]; omega
      rw [hq] at hs w1 i3 hlen ⊢
      rw [List.take_succ_cons] at hs w1 i3 hlen
      have := Toks.word (M := C) hs w1 i3
      rw [hlen, show C - (q + 1) = M - (c :: r).length by omega] at this
      exact this

end Go.Proofs.YtmoemnfflbielaaDoor
