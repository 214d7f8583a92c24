/- The contracts of level and order. -/
import Derived.Test.YtofachfbphinaaaB3
namespace Go.Proofs.Ytofachfbphinaaa
open Go.RowKit Go.Gav Go.BigFrame

/-- How numbers stand to each other. -/
def sgn (a b : Int) : Int := if a < b then -1 else if b < a then 1 else 0

theorem sgn_neg (a b : Int) : (sgn a b < 0 ↔ a < b) := by
  unfold sgn
  split
  · rename_i h; simp [h]
  · split
    · rename_i h h2; simp; omega
    · rename_i h h2; simp; omega
theorem sgn_le (a b : Int) : (sgn a b ≤ 0 ↔ a ≤ b) := by
  unfold sgn
  split
  · rename_i h; simp; omega
  · split
    · rename_i h h2; simp; omega
    · rename_i h h2; simp; omega
theorem sgn_zero (a b : Int) : (sgn a b = 0 ↔ a = b) := by
  unfold sgn
  split
  · rename_i h; simp; omega
  · split
    · rename_i h h2; simp; omega
    · rename_i h h2; simp; omega

theorem level_at (a a' b b' : Int) (w : World) :
    Calls Try.prog 22 #[.agg #[.int .i64 a, .int .i64 a'], .agg #[.int .i64 b, .int .i64 b']] w fun e w' => e = .returned (.int .i64 (sgn a b)) ∧ Only (fun _ => False) w w' := by
  by_cases h : a < b
  · have e : sgn a b = -1 := by unfold sgn; rw [if_pos h]
    rw [e]
    go_enter Try.func22, Try.ntmps22
    go_wp2
    go_ret
    exact ⟨rfl, ((Only.refl _ _).alloc _).alloc _⟩
  · by_cases h2 : b < a
    · have e : sgn a b = 1 := by unfold sgn; rw [if_neg h, if_pos h2]
      rw [e]
      go_enter Try.func22, Try.ntmps22
      go_wp2
      go_ret
      exact ⟨rfl, ((Only.refl _ _).alloc _).alloc _⟩
    · have e : sgn a b = 0 := by unfold sgn; rw [if_neg h, if_neg h2]
      rw [e]
      go_enter Try.func22, Try.ntmps22
      go_wp2
      go_ret
      exact ⟨rfl, ((Only.refl _ _).alloc _).alloc _⟩

theorem order_at (a b : Int) (w : World) :
    Calls Try.prog 11 #[.int .i64 a, .int .i64 b] w fun e w' => e = .returned (.int .i64 (sgn a b)) ∧ Only (fun _ => False) w w' := by
  go_enter Try.func11, Try.ntmps11
  go_wp2_with (fail)
  refine (level_at a 0 b 0 _).mono ?_
  rintro _ w1 ⟨rfl, o1⟩
  go_wp2
  go_ret
  exact ⟨rfl, o1⟩

end Go.Proofs.Ytofachfbphinaaa
