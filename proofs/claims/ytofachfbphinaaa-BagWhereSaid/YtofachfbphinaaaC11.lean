/- The contracts of At, EqualFunc, Same, Merge. -/
import Derived.Test.YtofachfbphinaaaC9
import Derived.Test.YtofachfbphinaaaC10
namespace Go.Proofs.Ytofachfbphinaaa
open Go.RowKit Go.Gav Go.BigFrame

set_option maxRecDepth 100000 in
theorem atI (b : Nat) (v : Value) (xs : List (Int)) (i : Nat) (w : World) (h : BagI w b v xs) (hi : i < xs.length) :
    Calls Try.prog 20 #[.pointer (some ⟨b, 0, none⟩), .int .i64 i] w fun e w' => e = .returned (.tuple #[.int .i64 (xs.getD i 0), .bool true]) ∧ Only (fun _ => False) w w' := by
  obtain ⟨ao, cap, rfl, hr, _⟩ := h.reads
  obtain ⟨g, rfl, hc⟩ := hr (by omega)
  have hx : w.cell? ⟨g, i, none⟩ = some (.int .i64 (xs.getD i 0)) := hc i hi
  obtain ⟨x, he⟩ : ∃ x, x = xs.getD i 0 := ⟨_, rfl⟩
  rw [← he] at hx ⊢
  obtain ⟨b0, b1⟩ := two_cells h.head
  have HH := Lib.hid h
  clear h hr hc he
  have hd1 : ¬ ((i : Int) < 0) := by omega
  have hd2 : ¬ ((i : Int) ≥ (xs.length : Int)) := by omega
  go_enter Try.func20, Try.ntmps20
  go_wp2_with (first | (go_at_call 14; refine (lenI b _ xs _ HH.out).mono ?_; rintro _ _ ⟨rfl, rfl⟩))
  go_ret2
  exact ⟨rfl, Only.refl _ _⟩

theorem at_highI (b : Nat) (v : Value) (xs : List (Int)) (i : Nat) (w : World) (h : BagI w b v xs) (hi : xs.length ≤ i) :
    Calls Try.prog 20 #[.pointer (some ⟨b, 0, none⟩), .int .i64 i] w fun e w' => e = .returned (.tuple #[.int .i64 0, .bool false]) ∧ Only (fun _ => False) w w' := by
  have HH := Lib.hid h
  clear h
  have hd1 : ¬ ((i : Int) < 0) := by omega
  have hd2 : ((i : Int) ≥ (xs.length : Int)) := by omega
  go_enter Try.func20, Try.ntmps20
  go_wp2_with (first | (go_at_call 14; refine (lenI b _ xs _ HH.out).mono ?_; rintro _ _ ⟨rfl, rfl⟩))
  go_ret2
  exact ⟨rfl, Only.refl _ _⟩

theorem at_negI (p : Option Addr) (i : Int) (w : World) (hi : i < 0) :
    Calls Try.prog 20 #[.pointer p, .int .i64 i] w fun e w' => e = .returned (.tuple #[.int .i64 0, .bool false]) ∧ Only (fun _ => False) w w' := by
  go_enter Try.func20, Try.ntmps20
  go_wp2
  go_ret2
  exact ⟨rfl, Only.refl _ _⟩

theorem at_nilI (i : Int) (w : World) :
    Calls Try.prog 20 #[.pointer none, .int .i64 i] w fun e w' => e = .returned (.tuple #[.int .i64 0, .bool false]) ∧ Only (fun _ => False) w w' := by
  by_cases hi : i < 0
  · exact at_negI none i w hi
  · have hd2 : i ≥ 0 := by omega
    go_enter Try.func20, Try.ntmps20
    go_wp2_with (first | (go_at_call 14; refine (len_nilI _).mono ?_; rintro _ _ ⟨rfl, rfl⟩))
    go_ret2
    exact ⟨rfl, Only.refl _ _⟩

end Go.Proofs.Ytofachfbphinaaa
