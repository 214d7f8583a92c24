/- The contracts of the order of entries. -/
import Derived.Test.YtnhiohgcoifniaaRows
import Derived.Test.YtnhiohgcoifniaaP2
import Derived.Test.YtnhiohgcoifniaaTree
import Derived.Deep.QuietTactic
import Derived.BigQuiet
import Derived.RegionTactic
import Derived.ChangeAlike
import Derived.Lib.Hide
import Derived.Outline
namespace Go.Proofs.Ytnhiohgcoifniaa
open Go.RowKit Go.Gav Go.BigFrame

/-- An entry, as a value. -/
def enV (x : En) : Value := .agg #[.int .i64 x.1, .int .i64 x.2]

theorem less_at (x y : En) (w : World) :
    Calls Try.prog 28 #[.agg #[.int .i64 x.1, .int .i64 x.2], .agg #[.int .i64 y.1, .int .i64 y.2]] w fun e w' => e = .returned (.bool (decide (lessE x y))) ∧ Only (fun _ => False) w w' := by
  obtain ⟨k, b⟩ := x
  obtain ⟨k', b'⟩ := y
  by_cases h : b = b'
  · subst h
    have h1 : (b != b) = false := by simp
    go_enter Try.func28, Try.ntmps28
    go_wp2
    go_ret
    refine ⟨?_, ((Only.refl _ _).alloc _).alloc _⟩
    simp [lessE]
  · have h1 : (b != b') = true := by simp [h]
    go_enter Try.func28, Try.ntmps28
    go_wp2
    go_ret
    refine ⟨?_, ((Only.refl _ _).alloc _).alloc _⟩
    simp [lessE, h]

theorem plain_at (x : En) (w : World) :
    Calls Try.prog 18 #[.agg #[.int .i64 x.1, .int .i64 x.2]] w fun e w' => e = .returned (.agg #[.int .i64 x.1, .int .i64 x.2]) ∧ Only (fun _ => False) w w' := by
  go_enter Try.func18, Try.ntmps18
  go_wp2
  refine bodyPost_ret (results_cell_row rfl _ _ (w.heap.size + 1) _ _ _ _ rfl (heap_alloc2_new _ _ _) Try.underlying33 rfl (by kernel_rfl)) rfl ?_
  exact ⟨rfl, ((Only.refl _ _).alloc _).alloc _⟩

/-- The two cells of a block. -/
theorem two_cells {w : World} {g : Nat} {u v : Value} {t : TypeId} (h : w.heap[g]? = some (.cells #[u, v] t (0, 0))) : w.cell? ⟨g, 0, none⟩ = some u ∧ w.cell? ⟨g, 1, none⟩ = some v :=
  ⟨by rw [cell_of_row w _ _ _ _ _ h]; rfl, by rw [cell_of_row w _ _ _ _ _ h]; rfl⟩

/-- What order answers. -/
def ordE (x y : En) : Int := if lessE x y then -1 else if lessE y x then 1 else 0

theorem less_is (x y : En) (b : Bool) (hb : decide (lessE x y) = b) (w : World) :
    Calls Try.prog 28 #[.agg #[.int .i64 x.1, .int .i64 x.2], .agg #[.int .i64 y.1, .int .i64 y.2]] w fun e w' => e = .returned (.bool b) ∧ Only (fun _ => False) w w' := by
  subst hb; exact less_at x y w

set_option maxHeartbeats 2000000 in
theorem order_at (x y : En) (w : World) :
    Calls Try.prog 10 #[.agg #[.int .i64 x.1, .int .i64 x.2], .agg #[.int .i64 y.1, .int .i64 y.2]] w fun e w' => e = .returned (.int .i64 (ordE x y)) ∧ Only (fun _ => False) w w' := by
  obtain ⟨bx, hbx⟩ : ∃ b, decide (lessE x y) = b := ⟨_, rfl⟩
  obtain ⟨by_, hby⟩ : ∃ b, decide (lessE y x) = b := ⟨_, rfl⟩
  obtain ⟨rx, hrx⟩ : ∃ r, ordE x y = r := ⟨_, rfl⟩
  have hr : rx = if bx = true then -1 else if by_ = true then 1 else 0 := by
    rw [← hrx, ← hbx, ← hby]; unfold ordE; simp
  rw [hrx]
  clear hrx
  go_enter Try.func10, Try.ntmps10
  go_wp2
  have h0 : ((w.alloc (.cells #[.int .i64 x.1, .int .i64 x.2] 40)).alloc (.cells #[.int .i64 y.1, .int .i64 y.2] 40)).heap[w.heap.size]? = some (.cells #[.int .i64 x.1, .int .i64 x.2] 40 (0, 0)) := hp_alloc (heap_alloc_new _ _) _
  have h1 : ((w.alloc (.cells #[.int .i64 x.1, .int .i64 x.2] 40)).alloc (.cells #[.int .i64 y.1, .int .i64 y.2] 40)).heap[w.heap.size + 1]? = some (.cells #[.int .i64 y.1, .int .i64 y.2] 40 (0, 0)) := heap_alloc2_new _ _ _
  have o1 : Only (fun _ => False) w ((w.alloc (.cells #[.int .i64 x.1, .int .i64 x.2] 40)).alloc (.cells #[.int .i64 y.1, .int .i64 y.2] 40)) := ((Only.refl _ _).alloc _).alloc _
  generalize (w.alloc (.cells #[.int .i64 x.1, .int .i64 x.2] 40)).alloc (.cells #[.int .i64 y.1, .int .i64 y.2] 40) = w1 at *
  have H0 := Lib.hid h0
  have H1 := Lib.hid h1
  have O1 := Lib.hid o1
  clear h0 h1 o1
  cases bx with
  | true =>
    (
      refine wp_region_tree [] (.cons (.node [0] (.cons (.node [1, 2, 3, 4] .nil) (.cons (.node [2, 1, 3, 4] .nil) .nil))) (.cons (.node [2, 0, 1, 3, 4] .nil) .nil)) (by kernel_rfl) (by kernel_rfl) (fun _ _ _ _ h => h) ?_
      simp only [endOf, Tree.wp, Forest.wps, pick, consO, List.getElem?_toArray, List.getElem?_cons_succ, List.getElem?_cons_zero, movesOf, and_true]
      obtain ⟨c0, c1⟩ := two_cells H0.out
      obtain ⟨d0, d1⟩ := two_cells H1.out
      refine ⟨?_, ?_⟩
      all_goals try (go_wp2; refine ⟨?_, ?_⟩)
      all_goals (
        go_wp2_with (fail)
        refine (plain_at x _).mono ?_
        rintro e w2 ⟨rfl, o2⟩
        have h0 := o2.keep (show (World.drewN _ 1).heap[w.heap.size]? = _ from H0.out) id
        have h1 := o2.keep (show (World.drewN _ 1).heap[w.heap.size + 1]? = _ from H1.out) id
        obtain ⟨e0, e1⟩ := two_cells h0
        obtain ⟨f0, f1⟩ := two_cells h1
        go_wp2_with (fail)
        refine (plain_at y _).mono ?_
        rintro e w3 ⟨rfl, o3⟩
        go_wp2_with (fail)
        refine (less_is x y true hbx _).mono ?_
        rintro e w4 ⟨rfl, o4⟩
        have H0' := Lib.hid (o4.keep (o3.keep h0 id) id)
        have H1' := Lib.hid (o4.keep (o3.keep h1 id) id)
        have O4 := Lib.hid ((((O1.out.drewN 1).trans o2 (fun _ _ h => h)).trans o3 (fun _ _ h => h)).trans o4 (fun _ _ h => h))
        clear e0 e1 f0 f1 h0 h1 c0 c1 d0 d1 o2 o3 o4 H0 H1 O1
        go_wp2_with (fail)))
    all_goals
      go_ret
      exact ⟨by rw [hr]; rfl, O4.out⟩
  | false =>
    (
      refine wp_region_tree [] (.cons (.node [0] (.cons (.node [1, 2, 3, 4] .nil) (.cons (.node [2, 1, 3, 4] .nil) .nil))) (.cons (.node [2, 0, 1, 3, 4] .nil) .nil)) (by kernel_rfl) (by kernel_rfl) (fun _ _ _ _ h => h) ?_
      simp only [endOf, Tree.wp, Forest.wps, pick, consO, List.getElem?_toArray, List.getElem?_cons_succ, List.getElem?_cons_zero, movesOf, and_true]
      obtain ⟨c0, c1⟩ := two_cells H0.out
      obtain ⟨d0, d1⟩ := two_cells H1.out
      refine ⟨?_, ?_⟩
      all_goals try (go_wp2; refine ⟨?_, ?_⟩)
      all_goals (
        go_wp2_with (fail)
        refine (plain_at x _).mono ?_
        rintro e w2 ⟨rfl, o2⟩
        have h0 := o2.keep (show (World.drewN _ 1).heap[w.heap.size]? = _ from H0.out) id
        have h1 := o2.keep (show (World.drewN _ 1).heap[w.heap.size + 1]? = _ from H1.out) id
        obtain ⟨e0, e1⟩ := two_cells h0
        obtain ⟨f0, f1⟩ := two_cells h1
        go_wp2_with (fail)
        refine (plain_at y _).mono ?_
        rintro e w3 ⟨rfl, o3⟩
        go_wp2_with (fail)
        refine (less_is x y false hbx _).mono ?_
        rintro e w4 ⟨rfl, o4⟩
        have H0' := Lib.hid (o4.keep (o3.keep h0 id) id)
        have H1' := Lib.hid (o4.keep (o3.keep h1 id) id)
        have O4 := Lib.hid ((((O1.out.drewN 1).trans o2 (fun _ _ h => h)).trans o3 (fun _ _ h => h)).trans o4 (fun _ _ h => h))
        clear e0 e1 f0 f1 h0 h1 c0 c1 d0 d1 o2 o3 o4 H0 H1 O1
        go_wp2_with (fail)))
    all_goals
      have H0 := H0'
      have H1 := H1'
      have O1 := O4
      clear H0' H1' O4
      cases by_ with
      | true =>
        (
          refine wp_region_tree [] (.cons (.node [0] (.cons (.node [1, 2, 3, 4] .nil) (.cons (.node [2, 1, 3, 4] .nil) .nil))) (.cons (.node [2, 0, 1, 3, 4] .nil) .nil)) (by kernel_rfl) (by kernel_rfl) (fun _ _ _ _ h => h) ?_
          simp only [endOf, Tree.wp, Forest.wps, pick, consO, List.getElem?_toArray, List.getElem?_cons_succ, List.getElem?_cons_zero, movesOf, and_true]
          obtain ⟨c0, c1⟩ := two_cells H0.out
          obtain ⟨d0, d1⟩ := two_cells H1.out
          refine ⟨?_, ?_⟩
          all_goals try (go_wp2; refine ⟨?_, ?_⟩)
          all_goals (
            go_wp2_with (fail)
            refine (plain_at y _).mono ?_
            rintro e w2 ⟨rfl, o2⟩
            have h0 := o2.keep (show (World.drewN _ 1).heap[w.heap.size]? = _ from H0.out) id
            have h1 := o2.keep (show (World.drewN _ 1).heap[w.heap.size + 1]? = _ from H1.out) id
            obtain ⟨e0, e1⟩ := two_cells h0
            obtain ⟨f0, f1⟩ := two_cells h1
            go_wp2_with (fail)
            refine (plain_at x _).mono ?_
            rintro e w3 ⟨rfl, o3⟩
            go_wp2_with (fail)
            refine (less_is y x true hby _).mono ?_
            rintro e w4 ⟨rfl, o4⟩
            have H0' := Lib.hid (o4.keep (o3.keep h0 id) id)
            have H1' := Lib.hid (o4.keep (o3.keep h1 id) id)
            have O4 := Lib.hid ((((O1.out.drewN 1).trans o2 (fun _ _ h => h)).trans o3 (fun _ _ h => h)).trans o4 (fun _ _ h => h))
            clear e0 e1 f0 f1 h0 h1 c0 c1 d0 d1 o2 o3 o4 H0 H1 O1
            go_wp2_with (fail)))
        all_goals
          go_ret
          exact ⟨by rw [hr]; rfl, O4.out⟩
      | false =>
        (
          refine wp_region_tree [] (.cons (.node [0] (.cons (.node [1, 2, 3, 4] .nil) (.cons (.node [2, 1, 3, 4] .nil) .nil))) (.cons (.node [2, 0, 1, 3, 4] .nil) .nil)) (by kernel_rfl) (by kernel_rfl) (fun _ _ _ _ h => h) ?_
          simp only [endOf, Tree.wp, Forest.wps, pick, consO, List.getElem?_toArray, List.getElem?_cons_succ, List.getElem?_cons_zero, movesOf, and_true]
          obtain ⟨c0, c1⟩ := two_cells H0.out
          obtain ⟨d0, d1⟩ := two_cells H1.out
          refine ⟨?_, ?_⟩
          all_goals try (go_wp2; refine ⟨?_, ?_⟩)
          all_goals (
            go_wp2_with (fail)
            refine (plain_at y _).mono ?_
            rintro e w2 ⟨rfl, o2⟩
            have h0 := o2.keep (show (World.drewN _ 1).heap[w.heap.size]? = _ from H0.out) id
            have h1 := o2.keep (show (World.drewN _ 1).heap[w.heap.size + 1]? = _ from H1.out) id
            obtain ⟨e0, e1⟩ := two_cells h0
            obtain ⟨f0, f1⟩ := two_cells h1
            go_wp2_with (fail)
            refine (plain_at x _).mono ?_
            rintro e w3 ⟨rfl, o3⟩
            go_wp2_with (fail)
            refine (less_is y x false hby _).mono ?_
            rintro e w4 ⟨rfl, o4⟩
            have H0' := Lib.hid (o4.keep (o3.keep h0 id) id)
            have H1' := Lib.hid (o4.keep (o3.keep h1 id) id)
            have O4 := Lib.hid ((((O1.out.drewN 1).trans o2 (fun _ _ h => h)).trans o3 (fun _ _ h => h)).trans o4 (fun _ _ h => h))
            clear e0 e1 f0 f1 h0 h1 c0 c1 d0 d1 o2 o3 o4 H0 H1 O1
            go_wp2_with (fail)))
        all_goals
          go_ret
          exact ⟨by rw [hr]; rfl, O4.out⟩

end Go.Proofs.Ytnhiohgcoifniaa
