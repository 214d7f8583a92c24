/- The contracts of the queue's small functions: place, New, Len, Peek. -/
import Derived.Test.YtflcdbefakjcbaaRows
import Derived.Test.YtflcdbefakjcbaaBase
import Derived.Test.YtflcdbefakjcbaaReg
import Derived.Deep.QuietTactic
import Derived.BigQuiet
import Derived.RegionTactic
import Derived.ChangeAlike
import Derived.Lib.Hide
import Derived.Outline
namespace Go.Proofs.Ytflcdbefakjcbaa
open Go.RowKit Go.Gav

/-- The slice in a queue: nil, or the whole of a block. -/
def ringV (rb L : Nat) : Value := if L = 0 then .slice none 0 0 else .slice (some ⟨rb, 0, none⟩) L L

/-- A queue at block b, its ring at block rb. -/
structure QAt (w : World) (b rb room : Nat) (zs : List Int) (fr n : Nat) : Prop where
  head : w.heap[b]? = some (.cells #[ringV rb zs.length, .int .i64 fr, .int .i64 n, .int .i64 room] 81 (0, 0))
  ring : 0 < zs.length → w.heap[rb]? = some (.cells (ints zs) 3 (0, 0)) ∧ rb ≠ b ∧ fr < zs.length
  nil0 : zs.length = 0 → fr = 0 ∧ rb = b
  le : n ≤ zs.length
  fit : zs.length ≤ room
  lo : 1 ≤ room
  hi : room ≤ 1048576

theorem QAt.only {w w' : World} {b rb room : Nat} {zs : List Int} {fr n : Nat} {S : Nat → Prop} (h : QAt w b rb room zs fr n) (ho : Only S w w') (hb : ¬ S b) (hr : ¬ S rb) : QAt w' b rb room zs fr n :=
  ⟨ho.keep h.head hb, fun hz => ⟨ho.keep (h.ring hz).1 hr, (h.ring hz).2⟩, h.nil0, h.le, h.fit, h.lo, h.hi⟩

theorem QAt.lt {w : World} {b rb room : Nat} {zs : List Int} {fr n : Nat} (h : QAt w b rb room zs fr n) : b < w.heap.size ∧ rb < w.heap.size := by
  have h1 := lt_of_block h.head
  refine ⟨h1, ?_⟩
  by_cases hz : 0 < zs.length
  · exact lt_of_block (h.ring hz).1
  · rw [(h.nil0 (by omega)).2]; exact h1

/-- What the walk wants of a queue's own cells. -/
theorem QAt.cells {w : World} {b rb room : Nat} {zs : List Int} {fr n : Nat} (h : QAt w b rb room zs fr n) :
    w.cell? ⟨b, 0, none⟩ = some (ringV rb zs.length) ∧ w.cell? ⟨b, 1, none⟩ = some (.int .i64 fr) ∧ w.cell? ⟨b, 2, none⟩ = some (.int .i64 n) ∧ w.cell? ⟨b, 3, none⟩ = some (.int .i64 room) ∧
    (∀ j, w.frozen? ⟨b, j, none⟩ = false) := by
  refine ⟨?_, ?_, ?_, ?_, fun j => free_of_row h.head⟩ <;> rw [cell_of_row w b _ _ _ _ h.head] <;> rfl

theorem place_cap (b rb : Nat) (L c : Nat) (fr : Nat) (i : Int) (w : World)
    (h0 : w.cell? ⟨b, 0, none⟩ = some (.slice (some ⟨rb, 0, none⟩) L c))
    (h1 : w.cell? ⟨b, 1, none⟩ = some (.int .i64 fr))
    (hL : 0 < L) (hL2 : L ≤ 1048576) (hfl : fr < L) (hi : 0 ≤ i) (hi2 : i ≤ 1048576) :
    Calls Try.prog 37 #[.pointer (some ⟨b, 0, none⟩), .int .i64 i] w fun e w' => e = .returned (.int .i64 ((fr + i) % L)) ∧ ∃ m, w' = w.drewN m := by
  go_enter Try.func37, Try.ntmps37
  go_wp2
  go_quiet (fail)
  go_wp2
  go_ret
  exact ⟨rfl, _, rfl⟩

theorem place_any (b rb : Nat) (L : Nat) (fr : Nat) (i : Int) (w : World)
    (h0 : w.cell? ⟨b, 0, none⟩ = some (.slice (some ⟨rb, 0, none⟩) L L))
    (h1 : w.cell? ⟨b, 1, none⟩ = some (.int .i64 fr))
    (hL : 0 < L) (hL2 : L ≤ 1048576) (hfl : fr < L) (hi : 0 ≤ i) (hi2 : i ≤ 1048576) :
    Calls Try.prog 37 #[.pointer (some ⟨b, 0, none⟩), .int .i64 i] w fun e w' => e = .returned (.int .i64 ((fr + i) % L)) ∧ ∃ m, w' = w.drewN m :=
  place_cap b rb L L fr i w h0 h1 hL hL2 hfl hi hi2

theorem new_ok (room : Nat) (w : World) (h1 : 1 ≤ room) (h2 : room ≤ 1048576) :
    Calls Try.prog 13 #[.int .i64 room] w fun e w' => e = .returned (.tuple #[.pointer (some ⟨w.heap.size, 0, none⟩), .int .i64 0]) ∧ w' = w.alloc (.cells #[.slice none 0 0, .int .i64 0, .int .i64 0, .int .i64 room] 81) := by
  go_enter Try.func13, Try.ntmps13
  go_wp2
  go_ret2
  exact ⟨rfl, rfl⟩

theorem new_no (room : Int) (w : World) (h : room < 1 ∨ 1048576 < room) :
    Calls Try.prog 13 #[.int .i64 room] w fun e w' => e = .returned (.tuple #[.pointer none, .int .i64 1]) ∧ w' = w := by
  rcases h with h | h
  · go_enter Try.func13, Try.ntmps13
    go_wp2
    go_ret2
    exact ⟨rfl, rfl⟩
  · have h' : 1 ≤ room := by omega
    go_enter Try.func13, Try.ntmps13
    go_wp2
    go_ret2
    exact ⟨rfl, rfl⟩

theorem len_nil (w : World) :
    Calls Try.prog 15 #[.pointer none] w fun e w' => e = .returned (.int .i64 0) ∧ w' = w := by
  go_enter Try.func15, Try.ntmps15
  go_wp2
  go_ret
  exact ⟨rfl, rfl⟩

theorem len_at (b : Nat) (n : Nat) (w : World) (h : w.cell? ⟨b, 2, none⟩ = some (.int .i64 n)) :
    Calls Try.prog 15 #[.pointer (some ⟨b, 0, none⟩)] w fun e w' => e = .returned (.int .i64 n) ∧ w' = w := by
  go_enter Try.func15, Try.ntmps15
  go_wp2
  go_ret
  exact ⟨rfl, rfl⟩

theorem peek_nil (w : World) :
    Calls Try.prog 19 #[.pointer none] w fun e w' => e = .returned (.tuple #[.int .i64 0, .bool false]) ∧ w' = w := by
  go_enter Try.func19, Try.ntmps19
  go_wp2_with (go_at_call 15; refine (len_nil _).mono ?_; rintro e w' ⟨rfl, rfl⟩)
  go_ret2
  exact ⟨rfl, rfl⟩

theorem peek_none (b : Nat) (w : World) (h : w.cell? ⟨b, 2, none⟩ = some (.int .i64 (0 : Nat))) :
    Calls Try.prog 19 #[.pointer (some ⟨b, 0, none⟩)] w fun e w' => e = .returned (.tuple #[.int .i64 0, .bool false]) ∧ w' = w := by
  go_enter Try.func19, Try.ntmps19
  go_wp2_with (go_at_call 15; refine (len_at _ _ _ h).mono ?_; rintro e w' ⟨rfl, rfl⟩)
  go_ret2
  exact ⟨rfl, rfl⟩

theorem peek_some (b rb L fr n : Nat) (x : Int) (w : World) (h0 : w.cell? ⟨b, 0, none⟩ = some (.slice (some ⟨rb, 0, none⟩) L L)) (h1 : w.cell? ⟨b, 1, none⟩ = some (.int .i64 fr))
    (h : w.cell? ⟨b, 2, none⟩ = some (.int .i64 n)) (hn : 0 < n) (hf : fr < L) (hx : w.cell? ⟨rb, fr, none⟩ = some (.int .i64 x)) :
    Calls Try.prog 19 #[.pointer (some ⟨b, 0, none⟩)] w fun e w' => e = .returned (.tuple #[.int .i64 x, .bool true]) ∧ ∃ m, w' = w.drewN m := by
  have hn' : ((n : Int) == 0) = false := by simp; omega
  go_enter Try.func19, Try.ntmps19
  go_wp2_with (go_at_call 15; refine (len_at _ _ _ h).mono ?_; rintro e w' ⟨rfl, rfl⟩)
  go_quiet (fail)
  go_wp2
  go_ret2
  exact ⟨rfl, _, rfl⟩

end Go.Proofs.Ytflcdbefakjcbaa
