/- Plain facts on what is gone through, no program in sight. -/
import Derived.Test.YtnhiohgcoifniaaS6
namespace Go.Proofs.Ytnhiohgcoifniaa
open Go.RowKit Go.Gav Go.BigFrame Go.Shelf

/-- How many of the first j are gone through. -/
def wantN (S : List En) (j : Nat) : Nat := ((S.take j).takeWhile fun e => lowB e.2).length

theorem wantN_zero (S : List En) : wantN S 0 = 0 := by simp [wantN]
theorem wantN_all (S : List En) : wantN S S.length = (whileK S).length := by simp [wantN, whileK]
theorem wantN_le (S : List En) (j : Nat) : wantN S j ≤ j := by
  have h1 := (List.takeWhile_prefix (fun e : En => lowB e.2) (l := S.take j)).length_le
  have h2 := List.length_take_le j S
  unfold wantN
  omega
theorem wantN_succ : ∀ (S : List En) (j : Nat), j < S.length → wantN S (j + 1) = if lowB (atE S j).2 = true ∧ wantN S j = j then wantN S j + 1 else wantN S j
  | [], j, h => by simp at h
  | e :: S, 0, _ => by
    cases hl : lowB e.2 with
    | true => simp [wantN, atE, hl]
    | false => simp [wantN, atE, hl]
  | e :: S, j + 1, h => by
    have ih := wantN_succ S j (by simpa using h)
    have ha : atE (e :: S) (j + 1) = atE S j := by simp [atE]
    cases hl : lowB e.2 with
    | true =>
      have e1 : ∀ k, wantN (e :: S) (k + 1) = wantN S k + 1 := fun k => by simp [wantN, hl]
      rw [e1, e1, ih, ha]
      by_cases hc : lowB (atE S j).2 = true ∧ wantN S j = j
      · rw [if_pos hc, if_pos ⟨hc.1, by omega⟩]
      · rw [if_neg hc, if_neg (fun h => hc ⟨h.1, by omega⟩)]
    | false =>
      have e1 : ∀ k, wantN (e :: S) (k + 1) = 0 := fun k => by simp [wantN, hl]
      rw [e1, e1, if_neg (by omega)]

theorem whileK_at (S : List En) (j : Nat) (h : j < (whileK S).length) : j < S.length ∧ (whileK S)[j] = (atE S j).1 := by
  have hp := List.takeWhile_prefix (fun e : En => lowB e.2) (l := S)
  have h1 := hp.length_le
  have h2 : j < (S.takeWhile fun e => lowB e.2).length := by simpa [whileK] using h
  refine ⟨by omega, ?_⟩
  rw [atE_get S j (by omega), ← hp.getElem h2]
  simp [whileK]

end Go.Proofs.Ytnhiohgcoifniaa
