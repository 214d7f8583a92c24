/- The order of entries, by what it lays: draws and new blocks. -/
import Derived.Test.YtnhiohgcoifniaaH1
import Derived.Sort.Grow
namespace Go.Gav
open Go Go.RowKit Go.Sort

/-- From w to w' draws were made and blocks laid, and nothing else was done. -/
def Grew (w w' : World) : Prop := ∃ q os, w' = grow (w.drewN q) os

variable {a b c w w' : World}
theorem Grew.refl (w : World) : Grew w w := ⟨0, #[], by rw [grow_empty]; rfl⟩
theorem Grew.alloc (h : Grew a w) (o : Obj) : Grew a (w.alloc o) := by
  obtain ⟨q, os, rfl⟩ := h
  exact ⟨q, os ++ #[o], by rw [alloc_eq_grow, grow_grow]⟩
theorem Grew.drewN (h : Grew a w) (n : Nat) : Grew a (w.drewN n) := by
  obtain ⟨q, os, rfl⟩ := h
  refine ⟨q + n, os, ?_⟩
  rw [← World.drewN_drewN]
  rfl
theorem Grew.trans (h : Grew a b) (k : Grew b c) (_ : ∀ j, j < a.heap.size → False → False) : Grew a c := by
  obtain ⟨q, os, rfl⟩ := h
  obtain ⟨q2, os2, rfl⟩ := k
  refine ⟨q + q2, os ++ os2, ?_⟩
  rw [← World.drewN_drewN, ← grow_grow]
  rfl
theorem Grew.only (h : Grew w w') : Only (fun _ => False) w w' := by
  obtain ⟨q, os, rfl⟩ := h
  refine ⟨rfl, rfl, rfl, by simp [grow], fun k hk _ => ?_⟩
  show (w.heap ++ os)[k]? = _
  rw [Array.getElem?_append_left hk]
theorem Grew.keep (h : Grew w w') {k : Nat} {o : Obj} (hb : w.heap[k]? = some o) (_ : False → False) : w'.heap[k]? = some o := h.only.keep hb id

end Go.Gav
namespace Go.Proofs.Ytnhiohgcoifniaa
open Go.RowKit Go.Gav Go.BigFrame

theorem less_atG (x y : En) (w : World) :
    Calls Try.prog 28 #[.agg #[.int .i64 x.1, .int .i64 x.2], .agg #[.int .i64 y.1, .int .i64 y.2]] w fun e w' => e = .returned (.bool (decide (lessE x y))) ∧ Grew w w' := by
  obtain ⟨k, b⟩ := x
  obtain ⟨k', b'⟩ := y
  by_cases h : b = b'
  · subst h
    have h1 : (b != b) = false := by simp
    go_enter Try.func28, Try.ntmps28
    go_wp2
    go_ret
    refine ⟨?_, ((Grew.refl _).alloc _).alloc _⟩
    simp [lessE]
  · have h1 : (b != b') = true := by simp [h]
    go_enter Try.func28, Try.ntmps28
    go_wp2
    go_ret
    refine ⟨?_, ((Grew.refl _).alloc _).alloc _⟩
    simp [lessE, h]

theorem plain_atG (x : En) (w : World) :
    Calls Try.prog 18 #[.agg #[.int .i64 x.1, .int .i64 x.2]] w fun e w' => e = .returned (.agg #[.int .i64 x.1, .int .i64 x.2]) ∧ Grew w w' := by
  go_enter Try.func18, Try.ntmps18
  go_wp2
  refine bodyPost_ret (results_cell_row rfl _ _ (w.heap.size + 1) _ _ _ _ rfl (heap_alloc2_new _ _ _) Try.underlying33 rfl (by kernel_rfl)) rfl ?_
  exact ⟨rfl, ((Grew.refl _).alloc _).alloc _⟩

theorem less_isG (x y : En) (b : Bool) (hb : decide (lessE x y) = b) (w : World) :
    Calls Try.prog 28 #[.agg #[.int .i64 x.1, .int .i64 x.2], .agg #[.int .i64 y.1, .int .i64 y.2]] w fun e w' => e = .returned (.bool b) ∧ Grew w w' := by
  subst hb; exact less_atG x y w

set_option maxHeartbeats 2000000 in
theorem order_atG (x y : En) (w : World) :
    Calls Try.prog 10 #[.agg #[.int .i64 x.1, .int .i64 x.2], .agg #[.int .i64 y.1, .int .i64 y.2]] w fun e w' => e = .returned (.int .i64 (ordE x y)) ∧ Grew w w' := by
  obtain ⟨bx, hbx⟩ : ∃ b, decide (lessE x y) = b := ⟨_, rfl⟩
  obtain ⟨by_, hby⟩ : ∃ b, decide (lessE y x) = b := ⟨_, rfl⟩
  obtain ⟨rx, hrx⟩ : ∃ r, ordE x y = r := ⟨_, rfl⟩
  have hr : rx = if bx = true then -1 else if by_ = true then 1 else 0 := by
    rw [← hrx, ← hbx, ← hby]; unfold ordE; simp
  rw [hrx]
  clear hrx
  go_enter Try.func10, Try.ntmps10
  go_wp2
  have h0 : ((w.alloc (.cells #[.int .i64 x.1, .int .i64 x.2] 40)).alloc (.cells #[.int .i64 y.1, .int .i64 y.2] 40)).heap[w.heap.size]? = some (.cells #[.int .i64 x.1, .int .i64 x.2] 40 (0, 0)) := hp_alloc (heap_alloc_new _ _) _
  have h1 : ((w.alloc (.cells #[.int .i64 x.1, .int .i64 x.2] 40)).alloc (.cells #[.int .i64 y.1, .int .i64 y.2] 40)).heap[w.heap.size + 1]? = some (.cells #[.int .i64 y.1, .int .i64 y.2] 40 (0, 0)) := heap_alloc2_new _ _ _
  have o1 : Grew w ((w.alloc (.cells #[.int .i64 x.1, .int .i64 x.2] 40)).alloc (.cells #[.int .i64 y.1, .int .i64 y.2] 40)) := ((Grew.refl _).alloc _).alloc _
  generalize (w.alloc (.cells #[.int .i64 x.1, .int .i64 x.2] 40)).alloc (.cells #[.int .i64 y.1, .int .i64 y.2] 40) = w1 at *
  have H0 := Lib.hid h0
  have H1 := Lib.hid h1
  have O1 := Lib.hid o1
  clear h0 h1 o1
  cases bx with
  | true =>
    (
      refine wp_region_tree [] (.cons (.node [0] (.cons (.node [1, 2, 3, 4] .nil) (.cons (.node [2, 1, 3, 4] .nil) .nil))) (.cons (.node [2, 0, 1, 3, 4] .nil) .nil)) (by kernel_rfl) (by kernel_rfl) (fun _ _ _ _ h => h) ?_
      simp only [endOf, Tree.wp, Forest.wps, pick, consO, List.getElem?_toArray, List.getElem?_cons_succ, List.getElem?_cons_zero, movesOf, and_true]
      obtain ⟨c0, c1⟩ := two_cells H0.out
      obtain ⟨d0, d1⟩ := two_cells H1.out
      refine ⟨?_, ?_⟩
      all_goals try (go_wp2; refine ⟨?_, ?_⟩)
      all_goals (
        go_wp2_with (fail)
        refine (plain_atG x _).mono ?_
        rintro e w2 ⟨rfl, o2⟩
        have h0 := o2.keep (show (World.drewN _ 1).heap[w.heap.size]? = _ from H0.out) id
        have h1 := o2.keep (show (World.drewN _ 1).heap[w.heap.size + 1]? = _ from H1.out) id
        obtain ⟨e0, e1⟩ := two_cells h0
        obtain ⟨f0, f1⟩ := two_cells h1
        go_wp2_with (fail)
        refine (plain_atG y _).mono ?_
        rintro e w3 ⟨rfl, o3⟩
        go_wp2_with (fail)
        refine (less_isG x y true hbx _).mono ?_
        rintro e w4 ⟨rfl, o4⟩
        have H0' := Lib.hid (o4.keep (o3.keep h0 id) id)
        have H1' := Lib.hid (o4.keep (o3.keep h1 id) id)
        have O4 := Lib.hid ((((O1.out.drewN 1).trans o2 (fun _ _ h => h)).trans o3 (fun _ _ h => h)).trans o4 (fun _ _ h => h))
        clear e0 e1 f0 f1 h0 h1 c0 c1 d0 d1 o2 o3 o4 H0 H1 O1
        go_wp2_with (fail)))
    all_goals
      go_ret
      exact ⟨by rw [hr]; rfl, O4.out⟩
  | false =>
    (
      refine wp_region_tree [] (.cons (.node [0] (.cons (.node [1, 2, 3, 4] .nil) (.cons (.node [2, 1, 3, 4] .nil) .nil))) (.cons (.node [2, 0, 1, 3, 4] .nil) .nil)) (by kernel_rfl) (by kernel_rfl) (fun _ _ _ _ h => h) ?_
      simp only [endOf, Tree.wp, Forest.wps, pick, consO, List.getElem?_toArray, List.getElem?_cons_succ, List.getElem?_cons_zero, movesOf, and_true]
      obtain ⟨c0, c1⟩ := two_cells H0.out
      obtain ⟨d0, d1⟩ := two_cells H1.out
      refine ⟨?_, ?_⟩
      all_goals try (go_wp2; refine ⟨?_, ?_⟩)
      all_goals (
        go_wp2_with (fail)
        refine (plain_atG x _).mono ?_
        rintro e w2 ⟨rfl, o2⟩
        have h0 := o2.keep (show (World.drewN _ 1).heap[w.heap.size]? = _ from H0.out) id
        have h1 := o2.keep (show (World.drewN _ 1).heap[w.heap.size + 1]? = _ from H1.out) id
        obtain ⟨e0, e1⟩ := two_cells h0
        obtain ⟨f0, f1⟩ := two_cells h1
        go_wp2_with (fail)
        refine (plain_atG y _).mono ?_
        rintro e w3 ⟨rfl, o3⟩
        go_wp2_with (fail)
        refine (less_isG x y false hbx _).mono ?_
        rintro e w4 ⟨rfl, o4⟩
        have H0' := Lib.hid (o4.keep (o3.keep h0 id) id)
        have H1' := Lib.hid (o4.keep (o3.keep h1 id) id)
        have O4 := Lib.hid ((((O1.out.drewN 1).trans o2 (fun _ _ h => h)).trans o3 (fun _ _ h => h)).trans o4 (fun _ _ h => h))
        clear e0 e1 f0 f1 h0 h1 c0 c1 d0 d1 o2 o3 o4 H0 H1 O1
        go_wp2_with (fail)))
    all_goals
      have H0 := H0'
      have H1 := H1'
      have O1 := O4
      clear H0' H1' O4
      cases by_ with
      | true =>
        (
          refine wp_region_tree [] (.cons (.node [0] (.cons (.node [1, 2, 3, 4] .nil) (.cons (.node [2, 1, 3, 4] .nil) .nil))) (.cons (.node [2, 0, 1, 3, 4] .nil) .nil)) (by kernel_rfl) (by kernel_rfl) (fun _ _ _ _ h => h) ?_
          simp only [endOf, Tree.wp, Forest.wps, pick, consO, List.getElem?_toArray, List.getElem?_cons_succ, List.getElem?_cons_zero, movesOf, and_true]
          obtain ⟨c0, c1⟩ := two_cells H0.out
          obtain ⟨d0, d1⟩ := two_cells H1.out
          refine ⟨?_, ?_⟩
          all_goals try (go_wp2; refine ⟨?_, ?_⟩)
          all_goals (
            go_wp2_with (fail)
            refine (plain_atG y _).mono ?_
            rintro e w2 ⟨rfl, o2⟩
            have h0 := o2.keep (show (World.drewN _ 1).heap[w.heap.size]? = _ from H0.out) id
            have h1 := o2.keep (show (World.drewN _ 1).heap[w.heap.size + 1]? = _ from H1.out) id
            obtain ⟨e0, e1⟩ := two_cells h0
            obtain ⟨f0, f1⟩ := two_cells h1
            go_wp2_with (fail)
            refine (plain_atG x _).mono ?_
            rintro e w3 ⟨rfl, o3⟩
            go_wp2_with (fail)
            refine (less_isG y x true hby _).mono ?_
            rintro e w4 ⟨rfl, o4⟩
            have H0' := Lib.hid (o4.keep (o3.keep h0 id) id)
            have H1' := Lib.hid (o4.keep (o3.keep h1 id) id)
            have O4 := Lib.hid ((((O1.out.drewN 1).trans o2 (fun _ _ h => h)).trans o3 (fun _ _ h => h)).trans o4 (fun _ _ h => h))
            clear e0 e1 f0 f1 h0 h1 c0 c1 d0 d1 o2 o3 o4 H0 H1 O1
            go_wp2_with (fail)))
        all_goals
          go_ret
          exact ⟨by rw [hr]; rfl, O4.out⟩
      | false =>
        (
          refine wp_region_tree [] (.cons (.node [0] (.cons (.node [1, 2, 3, 4] .nil) (.cons (.node [2, 1, 3, 4] .nil) .nil))) (.cons (.node [2, 0, 1, 3, 4] .nil) .nil)) (by kernel_rfl) (by kernel_rfl) (fun _ _ _ _ h => h) ?_
          simp only [endOf, Tree.wp, Forest.wps, pick, consO, List.getElem?_toArray, List.getElem?_cons_succ, List.getElem?_cons_zero, movesOf, and_true]
          obtain ⟨c0, c1⟩ := two_cells H0.out
          obtain ⟨d0, d1⟩ := two_cells H1.out
          refine ⟨?_, ?_⟩
          all_goals try (go_wp2; refine ⟨?_, ?_⟩)
          all_goals (
            go_wp2_with (fail)
            refine (plain_atG y _).mono ?_
            rintro e w2 ⟨rfl, o2⟩
            have h0 := o2.keep (show (World.drewN _ 1).heap[w.heap.size]? = _ from H0.out) id
            have h1 := o2.keep (show (World.drewN _ 1).heap[w.heap.size + 1]? = _ from H1.out) id
            obtain ⟨e0, e1⟩ := two_cells h0
            obtain ⟨f0, f1⟩ := two_cells h1
            go_wp2_with (fail)
            refine (plain_atG x _).mono ?_
            rintro e w3 ⟨rfl, o3⟩
            go_wp2_with (fail)
            refine (less_isG y x false hby _).mono ?_
            rintro e w4 ⟨rfl, o4⟩
            have H0' := Lib.hid (o4.keep (o3.keep h0 id) id)
            have H1' := Lib.hid (o4.keep (o3.keep h1 id) id)
            have O4 := Lib.hid ((((O1.out.drewN 1).trans o2 (fun _ _ h => h)).trans o3 (fun _ _ h => h)).trans o4 (fun _ _ h => h))
            clear e0 e1 f0 f1 h0 h1 c0 c1 d0 d1 o2 o3 o4 H0 H1 O1
            go_wp2_with (fail)))
        all_goals
          go_ret
          exact ⟨by rw [hr]; rfl, O4.out⟩

end Go.Proofs.Ytnhiohgcoifniaa
