/- The contracts of both queues, in one form whatever they hold. -/
import Derived.Test.YtflcdbefakjcbaaM1
namespace Go.Proofs.Ytflcdbefakjcbaa
open Go.RowKit Go.Gav Go.BigFrame Go.Shelf

/-- The items after a Push, and the error it returns. -/
def pushL (room : Nat) (xs : List Int) (x : Int) : List Int := if xs.length < room then xs ++ [x] else xs
def pushE (room : Nat) (xs : List Int) : Int := if xs.length < room then 0 else 14

/-- What a Pop hands out. -/
def headI (xs : List Int) : Int := xs.headD 0
def moreB (xs : List Int) : Bool := !xs.isEmpty

theorem q_push_any (b rb room : Nat) (xs : List Int) (x : Int) (w : World) (h : QRep w b rb room xs) :
    Calls Try.prog 14 #[.pointer (some ⟨b, 0, none⟩), .int .i64 x] w fun e w' => e = .returned (.int .i64 (pushE room xs)) ∧
      ∃ rb', QRep w' b rb' room (pushL room xs x) ∧ (rb' = rb ∨ w.heap.size ≤ rb') ∧ Only (fun k => k = b ∨ k = rb) w w' := by
  by_cases hf : xs.length < room
  · rw [pushE, pushL, if_pos hf, if_pos hf]; exact q_push b rb room xs x w h hf
  · rw [pushE, pushL, if_neg hf, if_neg hf]
    refine (q_push_full b rb room xs x w h (by omega)).mono ?_
    rintro e w' ⟨rfl, o⟩
    exact ⟨rfl, rb, h.only o id id, .inl rfl, o.mono (fun _ h => h.elim)⟩

theorem q_pop_any (b rb room : Nat) (xs : List Int) (w : World) (h : QRep w b rb room xs) :
    Calls Try.prog 16 #[.pointer (some ⟨b, 0, none⟩)] w fun e w' => e = .returned (.tuple #[.int .i64 (headI xs), .bool (moreB xs)]) ∧
      QRep w' b rb room xs.tail ∧ Only (fun k => k = b ∨ k = rb) w w' := by
  cases xs with
  | nil => 
    refine (q_pop_none b rb room w h).mono ?_
    rintro e w' ⟨rfl, rfl⟩
    exact ⟨rfl, h, Only.refl _ _⟩
  | cons y ys => exact q_pop b rb room y ys w h

theorem m_push_any (mb mg room : Nat) (xs : List Int) (x : Int) (w : World) (h : MRep w mb mg room xs) (hroom : room ≤ 1048576) :
    Calls Try.prog 17 #[.pointer (some ⟨mb, 0, none⟩), .int .i64 x] w fun e w' => e = .returned (.int .i64 (pushE room xs)) ∧
      ∃ mg', MRep w' mb mg' room (pushL room xs x) ∧ (mg' = mg ∨ w.heap.size ≤ mg') ∧ Only (fun k => k = mb) w w' := by
  by_cases hf : xs.length < room
  · rw [pushE, pushL, if_pos hf, if_pos hf]
    refine (m_push mb mg room xs x w h hf hroom).mono ?_
    rintro e w' ⟨rfl, mg', h1, h2, h3⟩
    exact ⟨rfl, mg', h1, .inr h2, h3⟩
  · rw [pushE, pushL, if_neg hf, if_neg hf]
    refine (m_push_full mb mg room xs x w h (by omega)).mono ?_
    rintro e w' ⟨rfl, o⟩
    exact ⟨rfl, mg, h.only o id id, .inl rfl, o.mono (fun _ h => h.elim)⟩

theorem m_pop_any (mb mg room : Nat) (xs : List Int) (w : World) (h : MRep w mb mg room xs) :
    Calls Try.prog 18 #[.pointer (some ⟨mb, 0, none⟩)] w fun e w' => e = .returned (.tuple #[.int .i64 (headI xs), .bool (moreB xs)]) ∧
      MRep w' mb mg room xs.tail ∧ Only (fun k => k = mb) w w' := by
  cases xs with
  | nil => 
    refine (m_pop_none mb mg room w h).mono ?_
    rintro e w' ⟨rfl, o⟩
    exact ⟨rfl, h.only o id id, o.mono (fun _ h => h.elim)⟩
  | cons y ys => exact m_pop mb mg room y ys w h

/-- What is read of the document's queue. -/
theorem MRep.read {w : World} {mb mg room : Nat} {xs : List Int} (h : MRep w mb mg room xs) :
    ∃ ao cap, w.cell? ⟨mb, 1, none⟩ = some (.slice ao xs.length cap) ∧ (0 < xs.length → ∃ off, ao = some ⟨mg, off, none⟩ ∧ ∀ i, i < xs.length → w.cell? ⟨mg, off + i, none⟩ = some (.int .i64 (xs.getD i 0))) := by
  obtain ⟨ao, cap, h1, h2, h3, h4, h5, h6, h7⟩ := h
  refine ⟨ao, cap, by rw [cell_of_row w _ _ _ _ _ h1]; rfl, fun h0 => ?_⟩
  cases ao with
  | none => have := h3 rfl; omega
  | some y => obtain ⟨off, rfl⟩ := h4 y rfl; exact ⟨off, rfl, h7 off rfl⟩

end Go.Proofs.Ytflcdbefakjcbaa
