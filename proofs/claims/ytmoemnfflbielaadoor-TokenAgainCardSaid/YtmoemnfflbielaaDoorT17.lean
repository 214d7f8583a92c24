/- Plain Lean: numbers written anew; a word written anew, or cut off behind its end, is the same word. No statement is proved here. -/
import Derived.Test.YtmoemnfflbielaaDoorT16
namespace Go.Proofs.YtmoemnfflbielaaDoor
open Go.RowKit Go.Gav Go.BigFrame Go.Shelf

theorem tw_app {p : UInt8 → Bool} {g : UInt8} (hg : p g = false) : ∀ (S Y : List UInt8), (∀ c ∈ S, p c = true) → (S ++ g :: Y).takeWhile p = S
  | [], Y, _ => by rw [List.nil_append, List.takeWhile_cons, if_neg (by simp [hg])]
  | c :: S, Y, h => by
    rw [List.cons_append, List.takeWhile_cons, if_pos (h c (by simp)), tw_app hg S Y (fun d hd => h d (by simp [hd]))]

theorem tw_take {p : UInt8 → Bool} : ∀ (l : List UInt8) (q : Nat), (l.takeWhile p).length ≤ q → (l.take q).takeWhile p = l.takeWhile p
  | [], q, _ => by simp
  | c :: l, 0, h => by
    have : (c :: l).takeWhile p = [] := List.length_eq_zero_iff.1 (by omega)
    rw [this]; rfl
  | c :: l, q + 1, h => by
    rw [List.take_succ_cons, List.takeWhile_cons, List.takeWhile_cons]
    rw [List.takeWhile_cons] at h
    split
    · rename_i hc
      rw [if_pos hc, List.length_cons] at h
      rw [tw_take l q (by omega)]
    · rfl

/-! ### The four kinds of words -/
theorem nameL_of {c : UInt8} {r : List UInt8} (hl : isLet c = true) (h16 : ((c :: r).takeWhile isWord).length ≤ 16) : nameL (c :: r) = ((c :: r).takeWhile isWord, 0) := by
  rw [nameL_cons, if_pos hl, if_neg (by omega)]
theorem nameL_inv {l : List UInt8} (h : (nameL l).2 = 0) : ∃ c r, l = c :: r ∧ isLet c = true ∧ (l.takeWhile isWord).length ≤ 16 ∧ (nameL l).1 = l.takeWhile isWord := by
  cases l with
  | nil => cases h
  | cons c r =>
    refine ⟨c, r, rfl, ?_⟩
    rw [nameL_cons] at h ⊢
    split at h
    · rename_i h1
      split at h
      · cases h
      · rename_i h2
        rw [if_pos h1, if_neg h2]
        exact ⟨h1, by omega, rfl⟩
    · cases h
theorem next_name {c : UInt8} {r : List UInt8} (hl : isLet c = true) (h16 : ((c :: r).takeWhile isWord).length ≤ 16) : nextL (c :: r) = (⟨0, (c :: r).takeWhile isWord, 0⟩, ((c :: r).takeWhile isWord).length, 0) := by
  rw [nextL_cons, if_pos hl, nameL_of hl h16]
theorem next_num {c : UInt8} {r : List UInt8} (hl : isLet c = false) (hd : isDig c = true) (h0 : ¬ (c.toNat = 48 ∧ 1 < ((c :: r).takeWhile isDig).length)) (hm : numVal ((c :: r).takeWhile isDig) ≤ maxI) :
    nextL (c :: r) = (⟨1, [], numVal ((c :: r).takeWhile isDig)⟩, ((c :: r).takeWhile isDig).length, 0) := by
  rw [nextL_cons, if_neg (by simp [hl]), if_pos hd]
  rw [numL_cons, if_neg h0, if_neg (by omega)]
theorem next_symL {c c2 : UInt8} {r : List UInt8} (h39 : c.toNat = 39) (hl : isLet c2 = true) (h16 : ((c2 :: r).takeWhile isWord).length ≤ 16) :
    nextL (c :: c2 :: r) = (⟨2, (c2 :: r).takeWhile isWord, 0⟩, 1 + ((c2 :: r).takeWhile isWord).length, 0) := by
  rw [nextL_cons, if_neg (by simp [isLet, h39]), if_neg (by simp [isDig, h39]), if_pos h39, nameL_of hl h16]
theorem next_markL {c : UInt8} {r m : List UInt8} (hl : isLet c = false) (hd : isDig c = false) (h39 : c.toNat ≠ 39) (hm : markAt (c :: r) = some m) : nextL (c :: r) = (⟨3, m, 0⟩, m.length, 0) := by
  rw [nextL_cons, if_neg (by simp [hl]), if_neg (by simp [hd]), if_neg h39, hm]

theorem nextL_inv {c : UInt8} {r : List UInt8} {x : Key} {n : Nat} (h : nextL (c :: r) = (x, n, 0)) :
    (isLet c = true ∧ ((c :: r).takeWhile isWord).length ≤ 16 ∧ x = ⟨0, (c :: r).takeWhile isWord, 0⟩ ∧ n = ((c :: r).takeWhile isWord).length) ∨
    (isLet c = false ∧ isDig c = true ∧ ¬ (c.toNat = 48 ∧ 1 < ((c :: r).takeWhile isDig).length) ∧ numVal ((c :: r).takeWhile isDig) ≤ maxI ∧ x = ⟨1, [], numVal ((c :: r).takeWhile isDig)⟩ ∧ n = ((c :: r).takeWhile isDig).length) ∨
    (c.toNat = 39 ∧ ∃ c2 r2, r = c2 :: r2 ∧ isLet c2 = true ∧ (r.takeWhile isWord).length ≤ 16 ∧ x = ⟨2, r.takeWhile isWord, 0⟩ ∧ n = 1 + (r.takeWhile isWord).length) ∨
    (isLet c = false ∧ isDig c = false ∧ c.toNat ≠ 39 ∧ ∃ m, markAt (c :: r) = some m ∧ x = ⟨3, m, 0⟩ ∧ n = m.length) := by
  rw [nextL_cons] at h
  split at h
  · rename_i hl
    simp only [Prod.mk.injEq] at h
    obtain ⟨rfl, rfl, h3⟩ := h
    obtain ⟨_, _, _, _, h16, e⟩ := nameL_inv h3
    exact .inl ⟨hl, h16, by rw [e], by rw [e]⟩
  · rename_i hl
    have hl' : isLet c = false := by simpa using hl
    split at h
    · rename_i hd
      simp only [Prod.mk.injEq] at h
      obtain ⟨rfl, rfl, h3⟩ := h
      rw [numL_cons] at h3 ⊢
      split at h3
      · cases h3
      · rename_i h1
        rw [if_neg h1]
        split at h3
        · cases h3
        · rename_i h2
          rw [if_neg h2]
          exact .inr (.inl ⟨hl', hd, h1, by omega, rfl, rfl⟩)
    · rename_i hd
      have hd' : isDig c = false := by simpa using hd
      split at h
      · rename_i h39
        simp only [Prod.mk.injEq] at h
        obtain ⟨rfl, rfl, h3⟩ := h
        obtain ⟨c2, r2, e1, hl2, h16, e⟩ := nameL_inv h3
        exact .inr (.inr (.inl ⟨h39, c2, r2, e1, hl2, h16, by rw [e], by rw [e]⟩))
      · rename_i h39
        split at h
        · rename_i m hm
          simp only [Prod.mk.injEq] at h
          obtain ⟨rfl, rfl, h3⟩ := h
          exact .inr (.inr (.inr ⟨hl', hd', h39, m, hm, rfl, rfl⟩))
        · simp at h

/-! ### Marks -/
theorem pre_take2 (l m : List UInt8) (hm : m.length ≤ 2) : Lib.hasPrefix l m = Lib.hasPrefix (l.take 2) m := by
  rw [← Lib.hasPrefix_of_take, ← Lib.hasPrefix_of_take, List.take_take, Nat.min_eq_left hm, List.length_take]
  congr 1
  simp
  omega
theorem marks_short : ∀ m ∈ marksL, m.length ≤ 2 := by decide
theorem markAt_take2 (l : List UInt8) : markAt l = markAt (l.take 2) := by
  unfold markAt
  have : ∀ L : List (List UInt8), (∀ m ∈ L, m.length ≤ 2) → L.find? (fun m => Lib.hasPrefix l m) = L.find? (fun m => Lib.hasPrefix (l.take 2) m) := by
    intro L
    induction L with
    | nil => intro _; rfl
    | cons m L ih =>
      intro h
      rw [List.find?_cons, List.find?_cons, pre_take2 l m (h m (by simp)), ih (fun x hx => h x (by simp [hx]))]
  exact this marksL marks_short
theorem mark_gap : ∀ g ∈ ([32, 35] : List UInt8), ∀ m ∈ marksL, markAt ((m ++ [g]).take 2) = some m := by decide
theorem mark_alone : ∀ m ∈ marksL, markAt m = some m := by decide
theorem mark_head : ∀ m ∈ marksL, ∀ c ∈ m.head?, isLet c = false ∧ isDig c = false ∧ c.toNat ≠ 39 ∧ isBlank c = false ∧ c.toNat ≠ 35 := by decide
theorem mark_app {m Y : List UInt8} {g : UInt8} (hm : m ∈ marksL) (hg : g = 32 ∨ g = 35) : markAt (m ++ g :: Y) = some m := by
  have h1 : 1 ≤ m.length := by
    have : ∀ x ∈ marksL, 1 ≤ x.length := by decide
    exact this m hm
  have e : (m ++ g :: Y).take 2 = (m ++ [g]).take 2 := by
    rw [show m ++ g :: Y = (m ++ [g]) ++ Y by simp, List.take_append_of_le_length (by simp; omega)]
  rw [markAt_take2, e]
  exact mark_gap g (by rcases hg with rfl | rfl <;> simp) m hm

/-! ### Numbers -/
def digB (d : Nat) : UInt8 := UInt8.ofNat (48 + d)
theorem digB_nat {d : Nat} (h : d < 10) : (digB d).toNat = 48 + d := by
  unfold digB
  rw [UInt8.toNat_ofNat']
  omega
def decL (n : Nat) : List UInt8 := if n < 10 then [digB n] else decL (n / 10) ++ [digB (n % 10)]
termination_by n
decreasing_by omega
theorem digB_dig {d : Nat} (h : d < 10) : isDig (digB d) = true := by
  unfold isDig; rw [digB_nat h]; simp; omega
theorem decL_dig (n : Nat) : ∀ c ∈ decL n, isDig c = true := by
  induction n using Nat.strongRecOn with
  | _ n ih =>
    rw [decL]
    split
    · intro c hc
      obtain rfl : c = digB n := by simpa using hc
      exact digB_dig ‹_›
    · intro c hc
      rcases List.mem_append.1 hc with h | h
      · exact ih (n / 10) (by omega) c h
      · obtain rfl : c = digB (n % 10) := by simpa using h
        exact digB_dig (by omega)
theorem decL_val (n : Nat) : numVal (decL n) = n := by
  induction n using Nat.strongRecOn with
  | _ n ih =>
    rw [decL]
    split
    · rename_i h
      simp [numVal, digB_nat h]
    · rw [numVal_snoc, ih (n / 10) (by omega), digB_nat (by omega)]
      omega
theorem decL_ne (n : Nat) : decL n ≠ [] := by
  rw [decL]
  split <;> simp
theorem decL_head (n : Nat) : ∀ c r, decL n = c :: r → (0 < n → c.toNat ≠ 48) ∧ (n = 0 → r = []) := by
  induction n using Nat.strongRecOn with
  | _ n ih =>
    intro c r e
    rw [decL] at e
    split at e
    · rename_i h
      simp only [List.cons.injEq] at e
      obtain ⟨rfl, rfl⟩ := e
      exact ⟨fun h0 => by rw [digB_nat h]; omega, fun _ => rfl⟩
    · rename_i h
      cases hq : decL (n / 10) with
      | nil => exact absurd hq (decL_ne _)
      | cons c' r' =>
        rw [hq, List.cons_append, List.cons.injEq] at e
        obtain ⟨rfl, -⟩ := e
        exact ⟨fun _ => (ih (n / 10) (by omega) _ _ hq).1 (by omega), fun h0 => by omega⟩
theorem rev_rec {P : List UInt8 → Prop} (h0 : P []) (h1 : ∀ l c, P l → P (l ++ [c])) (l : List UInt8) : P l := by
  have : ∀ m : List UInt8, P m.reverse := by
    intro m
    induction m with
    | nil => exact h0
    | cons c m ih => rw [List.reverse_cons]; exact h1 _ _ ih
  have h := this l.reverse
  rwa [List.reverse_reverse] at h

theorem numVal_pos : ∀ (l : List UInt8), (∀ c ∈ l, isDig c = true) → (∀ c r, l = c :: r → c.toNat ≠ 48) → l ≠ [] → 0 < numVal l := by
  intro l
  induction l using rev_rec with
  | h0 => intro _ _ h; exact absurd rfl h
  | h1 l c ih =>
    intro hd h0 _
    rw [numVal_snoc]
    cases l with
    | nil =>
      have h1 := h0 c [] rfl
      have h2 := hd c (by simp)
      simp [isDig] at h2
      omega
    | cons a l' =>
      have := ih (fun x hx => hd x (List.mem_append_left _ hx)) (fun x r e => h0 x (r ++ [c]) (by rw [e]; rfl)) (by simp)
      omega
/-- Digits that begin with no nought are the number written anew. -/
theorem decL_of : ∀ (l : List UInt8), (∀ c ∈ l, isDig c = true) → l ≠ [] → (∀ c r, l = c :: r → c.toNat = 48 → r = []) → decL (numVal l) = l := by
  intro l
  induction l using rev_rec with
  | h0 => intro _ h; exact absurd rfl h
  | h1 l c ih =>
    intro hd _ h0
    have hc := hd c (by simp)
    have hc' : 48 ≤ c.toNat ∧ c.toNat ≤ 57 := by simpa [isDig] using hc
    rw [numVal_snoc]
    cases l with
    | nil =>
      have e : numVal ([] : List UInt8) = 0 := rfl
      rw [e, decL, if_pos (by omega)]
      simp only [List.nil_append, List.cons.injEq, and_true]
      apply UInt8.toNat_inj.1
      rw [digB_nat (by omega)]
      omega
    | cons a l' =>
      have hne : ∀ x r, a :: l' = x :: r → x.toNat ≠ 48 := fun x r e h => by
        have := h0 x (r ++ [c]) (by rw [e]; rfl) h
        simp at this
      have hp := numVal_pos (a :: l') (fun x hx => hd x (List.mem_append_left _ hx)) hne (by simp)
      have hi := ih (fun x hx => hd x (List.mem_append_left _ hx)) (by simp) (fun x r e h => absurd h (hne x r e))
      rw [decL, if_neg (by omega), show (10 * numVal (a :: l') + (c.toNat - 48)) / 10 = numVal (a :: l') by omega, hi]
      congr 1
      simp only [List.cons.injEq, and_true]
      apply UInt8.toNat_inj.1
      rw [digB_nat (by omega)]
      omega

/-! ### A word's text -/
def Key.text (x : Key) : List UInt8 := if x.kind = 1 then decL x.N else if x.kind = 2 then 39 :: x.S else x.S

theorem dig_not_let {c : UInt8} (h : isDig c = true) : isLet c = false := by
  simp [isDig] at h; simp [isLet]; omega
theorem word_not_gap {g : UInt8} (hg : g = 32 ∨ g = 35) : isWord g = false ∧ isDig g = false := by
  rcases hg with rfl | rfl <;> decide
theorem let_head {c : UInt8} (h : isLet c = true) : isBlank c = false ∧ c.toNat ≠ 35 := by
  simp [isLet] at h; simp [isBlank]; omega
theorem dig_head {c : UInt8} (h : isDig c = true) : isBlank c = false ∧ c.toNat ≠ 35 := by
  simp [isDig] at h; simp [isBlank]; omega

/-- A word written anew, a blank or a remark behind it, is the same word. -/
theorem word_again {c : UInt8} {r : List UInt8} {x : Key} {n : Nat} (h : nextL (c :: r) = (x, n, 0)) {g : UInt8} (hg : g = 32 ∨ g = 35) (Y : List UInt8) :
    nextL (x.text ++ g :: Y) = (x, x.text.length, 0) ∧ ∃ c' r', x.text = c' :: r' ∧ isBlank c' = false ∧ c'.toNat ≠ 35 := by
  obtain ⟨gw, gd⟩ := word_not_gap hg
  rcases nextL_inv h with ⟨hl, h16, rfl, rfl⟩ | ⟨hl, hd, h0, hm, rfl, rfl⟩ | ⟨h39, c2, r2, rfl, hl2, h16, rfl, rfl⟩ | ⟨hl, hd, h39, m, hm, rfl, rfl⟩
  · have hT : (c :: r).takeWhile isWord = c :: (r.takeWhile isWord) := by rw [List.takeWhile_cons, if_pos (by simp [isWord, hl])]
    have htx : Key.text ⟨0, (c :: r).takeWhile isWord, 0⟩ = (c :: r).takeWhile isWord := rfl
    rw [htx]
    have htw := tw_app gw ((c :: r).takeWhile isWord) Y (fun d hd => mem_while hd)
    refine ⟨?_, c, _, hT, let_head hl⟩
    rw [hT, List.cons_append] at htw ⊢
    rw [next_name hl (by rw [htw, ← hT]; exact h16), htw]
  · have htx : Key.text ⟨1, [], numVal ((c :: r).takeWhile isDig)⟩ = decL (numVal ((c :: r).takeWhile isDig)) := rfl
    have hT : (c :: r).takeWhile isDig = c :: (r.takeWhile isDig) := by rw [List.takeWhile_cons, if_pos hd]
    have e : decL (numVal ((c :: r).takeWhile isDig)) = (c :: r).takeWhile isDig := decL_of _ (fun d hd => mem_while hd) (by rw [hT]; simp) (fun x y exy h48 => by
      rw [hT, List.cons.injEq] at exy
      obtain ⟨rfl, rfl⟩ := exy
      have : ¬ 1 < (c :: r.takeWhile isDig).length := by rw [← hT]; exact fun h => h0 ⟨h48, h⟩
      exact List.length_eq_zero_iff.1 (by rw [List.length_cons] at this; omega))
    rw [htx, e]
    have htw := tw_app gd ((c :: r).takeWhile isDig) Y (fun d hd => mem_while hd)
    refine ⟨?_, c, _, hT, dig_head hd⟩
    rw [hT, List.cons_append] at htw ⊢
    rw [next_num hl hd (by rw [htw, ← hT]; exact h0) (by rw [htw, ← hT]; exact hm), htw]
  · have hT : (c2 :: r2).takeWhile isWord = c2 :: (r2.takeWhile isWord) := by rw [List.takeWhile_cons, if_pos (by simp [isWord, hl2])]
    have htx : Key.text ⟨2, (c2 :: r2).takeWhile isWord, 0⟩ = 39 :: (c2 :: r2).takeWhile isWord := rfl
    rw [htx]
    have htw := tw_app gw ((c2 :: r2).takeWhile isWord) Y (fun d hd => mem_while hd)
    refine ⟨?_, 39, _, rfl, by decide, by decide⟩
    rw [hT, List.cons_append] at htw
    rw [hT, List.cons_append, List.cons_append, next_symL (by decide) hl2 (by rw [htw, ← hT]; exact h16), htw]
    simp only [List.length_cons]
    congr 2
    omega
  · obtain ⟨hmem, hpre, h1⟩ := markAt_some hm
    have htx : Key.text ⟨3, m, 0⟩ = m := rfl
    rw [htx]
    cases m with
    | nil => simp at h1
    | cons a m' =>
      obtain ⟨q1, q2, q3, q4, q5⟩ := mark_head (a :: m') hmem a rfl
      refine ⟨?_, a, m', rfl, q4, q5⟩
      have := mark_app (Y := Y) hmem hg
      rw [List.cons_append] at this ⊢
      rw [next_markL q1 q2 q3 this]

/-- A word cut off behind its end, or later, is the same word; its text is as long as it is. -/
theorem word_cut {c : UInt8} {r : List UInt8} {x : Key} {n : Nat} (h : nextL (c :: r) = (x, n, 0)) {q : Nat} (hq : n ≤ q) : nextL ((c :: r).take q) = (x, n, 0) ∧ x.text.length = n := by
  obtain ⟨q, rfl⟩ : ∃ q', q = q' + 1 := ⟨q - 1, by have := (nextL_ok h).2.1; omega⟩
  rw [List.take_succ_cons]
  rcases nextL_inv h with ⟨hl, h16, rfl, rfl⟩ | ⟨hl, hd, h0, hm, rfl, rfl⟩ | ⟨h39, c2, r2, rfl, hl2, h16, rfl, rfl⟩ | ⟨hl, hd, h39, m, hm, rfl, rfl⟩
  · have htw := tw_take (p := isWord) (c :: r) (q + 1) hq
    rw [List.take_succ_cons] at htw
    refine ⟨?_, rfl⟩
    rw [next_name hl (by rw [htw]; exact h16), htw]
  · have htw := tw_take (p := isDig) (c :: r) (q + 1) hq
    rw [List.take_succ_cons] at htw
    have hT : (c :: r).takeWhile isDig = c :: (r.takeWhile isDig) := by rw [List.takeWhile_cons, if_pos hd]
    have e : decL (numVal ((c :: r).takeWhile isDig)) = (c :: r).takeWhile isDig := decL_of _ (fun d hd => mem_while hd) (by rw [hT]; simp) (fun x y exy h48 => by
      rw [hT, List.cons.injEq] at exy
      obtain ⟨rfl, rfl⟩ := exy
      have : ¬ 1 < (c :: r.takeWhile isDig).length := by rw [← hT]; exact fun h => h0 ⟨h48, h⟩
      exact List.length_eq_zero_iff.1 (by rw [List.length_cons] at this; omega))
    refine ⟨?_, by show (decL _).length = _; rw [e]⟩
    rw [next_num hl hd (by rw [htw]; exact h0) (by rw [htw]; exact hm), htw]
  · have hT : (c2 :: r2).takeWhile isWord = c2 :: (r2.takeWhile isWord) := by rw [List.takeWhile_cons, if_pos (by simp [isWord, hl2])]
    obtain ⟨q, rfl⟩ : ∃ q', q = q' + 1 := ⟨q - 1, by rw [hT, List.length_cons] at hq; omega⟩
    have htw := tw_take (p := isWord) (c2 :: r2) (q + 1) (by omega)
    rw [List.take_succ_cons] at htw
    refine ⟨?_, by show (39 :: (c2 :: r2).takeWhile isWord).length = _; rw [List.length_cons]; omega⟩
    rw [List.take_succ_cons, next_symL h39 hl2 (by rw [htw]; exact h16), htw]
  · obtain ⟨hmem, hpre, h1⟩ := markAt_some hm
    refine ⟨?_, rfl⟩
    have : markAt (c :: r.take q) = some m := by
      rw [← List.take_succ_cons]
      rcases Nat.lt_or_ge (q + 1) 2 with h2 | h2
      · have hq0 : q = 0 := by omega
        subst hq0
        have hl1 : m.length = 1 := by omega
        have e := List.prefix_iff_eq_take.1 hpre
        rw [hl1] at e
        have e2 : (c :: r).take (0 + 1) = m := e.symm
        rw [e2]
        exact mark_alone m hmem
      · rw [markAt_take2, List.take_take, Nat.min_eq_left h2, ← markAt_take2]
        exact hm
    rw [next_markL hl hd h39 this]

end Go.Proofs.YtmoemnfflbielaaDoor
