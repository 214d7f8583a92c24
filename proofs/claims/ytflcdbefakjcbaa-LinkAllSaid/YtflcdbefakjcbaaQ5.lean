/- The queue's contracts in terms of the list of its items. -/
import Derived.Test.YtflcdbefakjcbaaQ4
namespace Go.Proofs.Ytflcdbefakjcbaa
open Go.RowKit Go.Gav Go.BigFrame

/-- A queue at block b (its ring at rb) with a room and items. -/
def QRep (w : World) (b rb room : Nat) (xs : List Int) : Prop :=
  ∃ zs fr, QAt w b rb room zs fr xs.length ∧ xs = ringItems zs fr xs.length

theorem QRep.only {w w' : World} {b rb room : Nat} {xs : List Int} {S : Nat → Prop} (h : QRep w b rb room xs) (ho : Only S w w') (hb : ¬ S b) (hr : ¬ S rb) : QRep w' b rb room xs :=
  let ⟨zs, fr, hq, hx⟩ := h
  ⟨zs, fr, hq.only ho hb hr, hx⟩

theorem QRep.lt {w : World} {b rb room : Nat} {xs : List Int} (h : QRep w b rb room xs) : b < w.heap.size ∧ rb < w.heap.size :=
  let ⟨_, _, hq, _⟩ := h
  hq.lt

theorem QRep.le {w : World} {b rb room : Nat} {xs : List Int} (h : QRep w b rb room xs) : xs.length ≤ room ∧ 1 ≤ room ∧ room ≤ 1048576 :=
  let ⟨_, _, hq, _⟩ := h
  ⟨Nat.le_trans hq.le hq.fit, hq.lo, hq.hi⟩

theorem q_new (room : Nat) (w : World) (h1 : 1 ≤ room) (h2 : room ≤ 1048576) :
    Calls Try.prog 13 #[.int .i64 room] w fun e w' => e = .returned (.tuple #[.pointer (some ⟨w.heap.size, 0, none⟩), .int .i64 0]) ∧
      QRep w' w.heap.size w.heap.size room [] ∧ Only (fun _ => False) w w' :=
  (new_ok room w h1 h2).mono fun e w' ⟨he, hw⟩ => by
    subst hw
    refine ⟨he, ⟨[], 0, ⟨?_, fun h => by simp at h, fun _ => ⟨rfl, rfl⟩, by simp, by simp, h1, h2⟩, rfl⟩, (Only.refl _ _).alloc _⟩
    simpa [ringV] using heap_alloc_new w _

theorem q_len (b rb room : Nat) (xs : List Int) (w : World) (h : QRep w b rb room xs) :
    Calls Try.prog 15 #[.pointer (some ⟨b, 0, none⟩)] w fun e w' => e = .returned (.int .i64 xs.length) ∧ w' = w :=
  let ⟨_, _, hq, _⟩ := h
  len_at b xs.length w hq.cells.2.2.1

theorem q_peek_none (b rb room : Nat) (w : World) (h : QRep w b rb room []) :
    Calls Try.prog 19 #[.pointer (some ⟨b, 0, none⟩)] w fun e w' => e = .returned (.tuple #[.int .i64 0, .bool false]) ∧ w' = w :=
  let ⟨_, _, hq, _⟩ := h
  peek_none b w hq.cells.2.2.1

theorem q_peek (b rb room : Nat) (x : Int) (xs : List Int) (w : World) (h : QRep w b rb room (x :: xs)) :
    Calls Try.prog 19 #[.pointer (some ⟨b, 0, none⟩)] w fun e w' => e = .returned (.tuple #[.int .i64 x, .bool true]) ∧ Only (fun _ => False) w w' := by
  obtain ⟨zs, fr, hq, hx⟩ := h
  have hle := hq.le
  simp only [List.length_cons] at hq hx hle
  obtain ⟨hr, hne, hf⟩ := hq.ring (by omega)
  rw [ringItems_pop zs fr xs.length hf hle] at hx
  have hx0 := (List.cons.inj hx).1
  obtain ⟨c0, c1, c2, c3, cf⟩ := hq.cells
  refine (peek_some b rb zs.length fr (xs.length + 1) x w (hq.ringV (by omega)) c1 c2 (by omega) hf (by rw [hx0]; exact cell_ints hr hf)).mono ?_
  rintro e w' ⟨rfl, m, rfl⟩
  exact ⟨rfl, (Only.refl _ _).drewN _⟩

theorem q_pop_none (b rb room : Nat) (w : World) (h : QRep w b rb room []) :
    Calls Try.prog 16 #[.pointer (some ⟨b, 0, none⟩)] w fun e w' => e = .returned (.tuple #[.int .i64 0, .bool false]) ∧ w' = w :=
  let ⟨_, _, hq, _⟩ := h
  pop_none b w hq.cells.2.2.1

theorem q_pop (b rb room : Nat) (x : Int) (xs : List Int) (w : World) (h : QRep w b rb room (x :: xs)) :
    Calls Try.prog 16 #[.pointer (some ⟨b, 0, none⟩)] w fun e w' => e = .returned (.tuple #[.int .i64 x, .bool true]) ∧
      QRep w' b rb room xs ∧ Only (fun k => k = b ∨ k = rb) w w' := by
  obtain ⟨zs, fr, hq, hx⟩ := h
  have hle := hq.le
  simp only [List.length_cons] at hq hx hle
  obtain ⟨hr, hne, hf⟩ := hq.ring (by omega)
  rw [ringItems_pop zs fr xs.length hf hle] at hx
  obtain ⟨hx0, hx1⟩ := List.cons.inj hx
  refine (pop_at b rb room zs fr xs.length w hq).mono ?_
  rintro e w' ⟨rfl, hq', ho⟩
  exact ⟨by rw [hx0], ⟨_, _, hq', hx1⟩, ho⟩

theorem q_push_full (b rb room : Nat) (xs : List Int) (x : Int) (w : World) (h : QRep w b rb room xs) (hf : room ≤ xs.length) :
    Calls Try.prog 14 #[.pointer (some ⟨b, 0, none⟩), .int .i64 x] w fun e w' => e = .returned (.int .i64 14) ∧ Only (fun _ => False) w w' := by
  obtain ⟨zs, fr, hq, hx⟩ := h
  obtain ⟨c0, c1, c2, c3, cf⟩ := hq.cells
  refine (push_full b xs.length room x w c2 c3 hf).mono ?_
  rintro e w' ⟨rfl, m, rfl⟩
  exact ⟨rfl, (Only.refl _ _).drewN _⟩

theorem q_push (b rb room : Nat) (xs : List Int) (x : Int) (w : World) (h : QRep w b rb room xs) (hf : xs.length < room) :
    Calls Try.prog 14 #[.pointer (some ⟨b, 0, none⟩), .int .i64 x] w fun e w' => e = .returned (.int .i64 0) ∧
      ∃ rb', QRep w' b rb' room (xs ++ [x]) ∧ (rb' = rb ∨ w.heap.size ≤ rb') ∧ Only (fun k => k = b ∨ k = rb) w w' := by
  obtain ⟨zs, fr, hq, hx⟩ := h
  refine (push_at b rb room xs zs fr x w hq hx hf).mono ?_
  rintro e w' ⟨rfl, rb', zs', fr', h1, h2, h3, h4⟩
  exact ⟨rfl, rb', ⟨zs', fr', h1, h2⟩, h3, h4⟩

end Go.Proofs.Ytflcdbefakjcbaa
