/- The order of links, by what it lays: draws and new blocks. -/
import Derived.Test.YtflcdbefakjcbaaN5
import Derived.Test.YtflcdbefakjcbaaReg
import Derived.Sort.Grow
namespace Go.Gav
open Go Go.RowKit Go.Sort

/-- From w to w' draws were made and blocks laid, and nothing else was done. -/
def Grew (w w' : World) : Prop := ∃ q os, w' = grow (w.drewN q) os

variable {a b c w w' : World}
theorem Grew.refl (w : World) : Grew w w := ⟨0, #[], by rw [grow_empty]; rfl⟩
theorem Grew.alloc (h : Grew a w) (o : Obj) : Grew a (w.alloc o) := by
  obtain ⟨q, os, rfl⟩ := h
  exact ⟨q, os ++ #[o], by rw [alloc_eq_grow, grow_grow]⟩
theorem Grew.drewN (h : Grew a w) (n : Nat) : Grew a (w.drewN n) := by
  obtain ⟨q, os, rfl⟩ := h
  refine ⟨q + n, os, ?_⟩
  rw [← World.drewN_drewN]
  rfl

end Go.Gav
namespace Go.Proofs.Ytflcdbefakjcbaa
open Go.RowKit Go.Gav Go.BigFrame Go.Shelf

/-- The order of two numbers. -/
def cmpI (a b : Int) : Int := if a < b then -1 else if b < a then 1 else 0
/-- The order of two links. -/
def ordE (x y : En) : Int := if cmpI x.1 y.1 ≠ 0 then cmpI x.1 y.1 else cmpI x.2 y.2
def lessE (x y : En) : Prop := x.1 < y.1 ∨ (x.1 = y.1 ∧ x.2 < y.2)
instance (x y : En) : Decidable (lessE x y) := by unfold lessE; exact inferInstance

theorem nan_at (a : Int) (w : World) : Calls Try.prog 55 #[.int .i64 a] w fun e w' => e = .returned (.bool false) ∧ w' = w := by
  go_enter Try.func55, Try.ntmps55
  go_wp2
  go_ret
  refine ⟨?_, rfl⟩
  simp

theorem cmp_at (a b : Int) (w : World) : Calls Try.prog 50 #[.int .i64 a, .int .i64 b] w fun e w' => e = .returned (.int .i64 (cmpI a b)) ∧ w' = w := by
  unfold cmpI
  by_cases h1 : a < b
  · go_enter Try.func50, Try.ntmps50
    go_wp2_with (first | (go_at_call 55; refine (nan_at _ _).mono ?_; rintro e w1 ⟨rfl, rfl⟩) | fail)
    go_ret
    exact ⟨by simp, rfl⟩
  · by_cases h2 : b < a
    · go_enter Try.func50, Try.ntmps50
      go_wp2_with (first | (go_at_call 55; refine (nan_at _ _).mono ?_; rintro e w1 ⟨rfl, rfl⟩) | fail)
      go_ret
      exact ⟨by simp, rfl⟩
    · go_enter Try.func50, Try.ntmps50
      go_wp2_with (first | (go_at_call 55; refine (nan_at _ _).mono ?_; rintro e w1 ⟨rfl, rfl⟩) | fail)
      go_ret
      exact ⟨by simp, rfl⟩

theorem cmp_q (a b r : Int) (w : World) (hr : cmpI a b = r) : Calls Try.prog 50 #[.int .i64 a, .int .i64 b] w fun e w' => e = .returned (.int .i64 r) ∧ ∃ m, w' = w.drewN m := by
  subst hr
  refine (cmp_at a b w).mono ?_
  rintro e w' ⟨he, rfl⟩
  exact ⟨he, 0, rfl⟩

theorem or_at (b : Nat) (x y r : Int) (hr : (if x ≠ 0 then x else y) = r) (w : World) (hb : w.heap[b]? = some (.cells #[.int .i64 x, .int .i64 y] 3 (0, 0))) :
    Calls Try.prog 49 #[.slice (some ⟨b, 0, none⟩) 2 2] w fun e w' => e = .returned (.int .i64 r) ∧ w' = w := by
  subst hr
  obtain ⟨c0, c1⟩ := two_cells hb
  clear hb
  by_cases hx : x = 0
  · subst hx
    by_cases hy : y = 0
    · subst hy
      go_enter Try.func49, Try.ntmps49
      go_wp2
      refine wp_loop_rounds 3 ?_
      repeat any_goals (rw [rounds_succ]; go_wp2)
      go_ret
      exact ⟨rfl, rfl⟩
    · go_enter Try.func49, Try.ntmps49
      go_wp2
      refine wp_loop_rounds 3 ?_
      repeat any_goals (rw [rounds_succ]; go_wp2)
      go_ret
      exact ⟨rfl, rfl⟩
  · go_enter Try.func49, Try.ntmps49
    go_wp2
    refine wp_loop_rounds 3 ?_
    repeat any_goals (rw [rounds_succ]; go_wp2)
    go_ret
    exact ⟨by simp, rfl⟩


set_option maxHeartbeats 2000000 in
theorem order_at (x y : En) (w : World) :
    Calls Try.prog 48 #[.agg #[.int .i64 x.1, .int .i64 x.2], .agg #[.int .i64 y.1, .int .i64 y.2]] w fun e w' => e = .returned (.int .i64 (ordE x y)) ∧ Grew w w' := by
  obtain ⟨x1, x2⟩ := x
  obtain ⟨y1, y2⟩ := y
  obtain ⟨r1, h1⟩ : ∃ r, r = cmpI x1 y1 := ⟨_, rfl⟩
  obtain ⟨r2, h2⟩ : ∃ r, r = cmpI x2 y2 := ⟨_, rfl⟩
  obtain ⟨r, hr⟩ : ∃ r, ordE (x1, x2) (y1, y2) = r := ⟨_, rfl⟩
  have h3 : (if r1 ≠ 0 then r1 else r2) = r := by rw [← hr, h1, h2]; rfl
  rw [hr]
  clear hr
  go_enter Try.func48, Try.ntmps48
  go_wp2
  have k0 : ((w.alloc (.cells #[.int .i64 x1, .int .i64 x2] 62)).alloc (.cells #[.int .i64 y1, .int .i64 y2] 62)).heap[w.heap.size]? = some (.cells #[.int .i64 x1, .int .i64 x2] 62 (0, 0)) := hp_alloc (heap_alloc_new _ _) _
  have k1 : ((w.alloc (.cells #[.int .i64 x1, .int .i64 x2] 62)).alloc (.cells #[.int .i64 y1, .int .i64 y2] 62)).heap[w.heap.size + 1]? = some (.cells #[.int .i64 y1, .int .i64 y2] 62 (0, 0)) := heap_alloc2_new _ _ _
  have o1 : Grew w ((w.alloc (.cells #[.int .i64 x1, .int .i64 x2] 62)).alloc (.cells #[.int .i64 y1, .int .i64 y2] 62)) := ((Grew.refl _).alloc _).alloc _
  generalize (w.alloc (.cells #[.int .i64 x1, .int .i64 x2] 62)).alloc (.cells #[.int .i64 y1, .int .i64 y2] 62) = w1 at *
  obtain ⟨c0, c1⟩ := two_cells k0
  obtain ⟨d0, d1⟩ := two_cells k1
  have O1 := Lib.hid o1
  have H1 := Lib.hid h1
  have H2 := Lib.hid h2
  have H3 := Lib.hid h3
  clear k0 k1 o1 h1 h2 h3
  refine wp_region_mixed [] [0, 1, 2, 3, 4, 5, 6, 7, 8, 9] 10 [11, 12] (by kernel_rfl) (by kernel_rfl) (fun _ _ _ _ h => h) ?_
  simp only [pick, consO, List.getElem?_toArray, List.getElem?_cons_succ, List.getElem?_cons_zero, movesOf]
  iterate 4 (go_big_quiet_step (fail))
  go_big_quiet_step (exact Calls.quiet_of (cmp_q x1 y1 r1 _ H1.out.symm))
  iterate 4 (go_big_quiet_step (fail))
  go_big_quiet_step (exact Calls.quiet_of (cmp_q x2 y2 r2 _ H2.out.symm))
  refine wpQuiet_nil ?_
  rintro _ ⟨nq, rfl⟩
  have O2 := Lib.hid (O1.out.drewN nq)
  go_wp2_with (first | (go_at_call 49; refine (or_at _ r1 r2 r H3.out _ (heap_alloc_new _ _)).mono ?_; rintro e w2 ⟨rfl, rfl⟩) | fail)
  go_ret
  exact ⟨rfl, O2.out.alloc _⟩

end Go.Proofs.Ytflcdbefakjcbaa
