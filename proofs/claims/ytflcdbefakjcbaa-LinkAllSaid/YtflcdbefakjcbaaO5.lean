/- The contracts of the methods of a nil net, and of what All and Heads return. -/
import Derived.Test.YtflcdbefakjcbaaO4
namespace Go.Proofs.Ytflcdbefakjcbaa
open Go.RowKit Go.Gav Go.BigFrame Go.Shelf

theorem nsend_nil (a b v : Int) (w : World) : Calls Try.prog 27 #[.pointer none, .int .i64 a, .int .i64 b, .int .i64 v] w fun e w' => e = .returned (.int .i64 1) ∧ w' = w := by
  go_enter Try.func27, Try.ntmps27
  go_wp2
  go_ret
  exact ⟨rfl, rfl⟩

theorem ntake_nil (a b : Int) (w : World) : Calls Try.prog 31 #[.pointer none, .int .i64 a, .int .i64 b] w fun e w' => e = .returned (.tuple #[.int .i64 0, .bool false]) ∧ w' = w := by
  go_enter Try.func31, Try.ntmps31
  go_wp2
  go_ret2
  exact ⟨rfl, rfl⟩

theorem nlen_nil (w : World) : Calls Try.prog 28 #[.pointer none] w fun e w' => e = .returned (.int .i64 0) ∧ w' = w := by
  go_enter Try.func28, Try.ntmps28
  go_wp2_with (first | (go_at_call 40; refine (pairs_nil _).mono ?_; rintro e w1 ⟨rfl, rfl⟩) | fail)
  refine wp_loop_rounds 1 ?_
  rw [rounds_succ]
  go_wp2
  go_ret
  exact ⟨rfl, rfl⟩

theorem ncopy_nil (w : World) : Calls Try.prog 29 #[.pointer none] w fun e w' => e = .returned (.pointer none) ∧ w' = w := by
  go_enter Try.func29, Try.ntmps29
  go_wp2
  go_ret
  exact ⟨rfl, rfl⟩

/-- The world behind All and Heads. -/
def handedW (w : World) (q : Option Addr) (g : FuncId) : World := (w.alloc (.cells #[.pointer q] 51)).alloc (.cells #[.func (.func g) #[] #[]] 92)

theorem handed_call (q : Option Addr) (g : FuncId) (w : World) : Calls Try.prog 41 #[.pointer q, .func (.func g) #[] #[]] w fun e w' => e = .returned (.func (.func 51) #[] #[.pointer (some ⟨w.heap.size, 0, none⟩), .pointer (some ⟨w.heap.size + 1, 0, none⟩)]) ∧ w' = handedW w q g := by
  go_enter Try.func41, Try.ntmps41
  go_wp2
  go_ret
  exact ⟨rfl, rfl⟩

theorem nall_call (q : Option Addr) (w : World) : Calls Try.prog 32 #[.pointer q] w fun e w' => e = .returned (.func (.func 51) #[] #[.pointer (some ⟨w.heap.size, 0, none⟩), .pointer (some ⟨w.heap.size + 1, 0, none⟩)]) ∧ w' = handedW w q 44 := by
  go_enter Try.func32, Try.ntmps32
  go_wp2_with (first | (go_at_call 41; refine (handed_call q 44 _).mono ?_; rintro e w1 ⟨rfl, rfl⟩) | fail)
  go_ret
  exact ⟨rfl, rfl⟩

theorem nheads_call (q : Option Addr) (w : World) : Calls Try.prog 30 #[.pointer q] w fun e w' => e = .returned (.func (.func 51) #[] #[.pointer (some ⟨w.heap.size, 0, none⟩), .pointer (some ⟨w.heap.size + 1, 0, none⟩)]) ∧ w' = handedW w q 42 := by
  go_enter Try.func30, Try.ntmps30
  go_wp2_with (first | (go_at_call 41; refine (handed_call q 42 _).mono ?_; rintro e w1 ⟨rfl, rfl⟩) | fail)
  go_ret
  exact ⟨rfl, rfl⟩

theorem handedW_only (w : World) (q : Option Addr) (g : FuncId) : Only (fun _ => False) w (handedW w q g) := ((Only.refl _ _).alloc _).alloc _
theorem handedW_cells (w : World) (q : Option Addr) (g : FuncId) : (handedW w q g).cell? ⟨w.heap.size, 0, none⟩ = some (.pointer q) ∧ (handedW w q g).cell? ⟨w.heap.size + 1, 0, none⟩ = some (.func (.func g) #[] #[]) :=
  ⟨cell_of_one (hp_alloc (heap_alloc_new w _) _), cell_of_one (heap_alloc2_new w _ _)⟩

/-- What a round is handed: a link and an item. -/
def encH (x : En × Int) : Array Value := #[.agg #[.int .i64 x.1.1, .int .i64 x.1.2], .int .i64 x.2]

theorem handed_nil (b0 b1 : Nat) (w : World) (h0 : w.cell? ⟨b0, 0, none⟩ = some (.pointer none)) : Iter Try.prog 51 #[.pointer (some ⟨b0, 0, none⟩), .pointer (some ⟨b1, 0, none⟩)] encH [] w := by
  intro l W hW R H
  have hc := hW.cell h0 id
  have fin : ∀ W0, Only (fun _ => False) W W0 → R W0 := fun W0 h0 => by
    obtain ⟨J, Jx, hJ0, _, _, _, hJd, _⟩ := H W0 h0
    exact hJd W0 hJ0
  have HF := Lib.hid fin
  have hc1 := ((Only.refl (fun _ => False) W).alloc (.cells #[.slice none 0 0] 101)).cell hc id
  clear h0 hW H fin hc
  show Calls Try.prog 51 #[.func (.yield l) #[] #[], .pointer (some ⟨b0, 0, none⟩), .pointer (some ⟨b1, 0, none⟩)] W _
  go_enter Try.func51, Try.ntmps51
  go_wp2_with (first | (go_at_call 40; refine (pairs_nil _).mono ?_; rintro e w1 ⟨rfl, rfl⟩) | fail)
  refine wp_loop_rounds 1 ?_
  rw [rounds_succ]
  go_wp2
  refine wp_loop_rounds 1 ?_
  rw [rounds_succ]
  go_wp2
  go_end0
  exact ⟨⟨_, rfl⟩, HF.out _ ((Only.refl _ _).alloc _)⟩

end Go.Proofs.Ytflcdbefakjcbaa
