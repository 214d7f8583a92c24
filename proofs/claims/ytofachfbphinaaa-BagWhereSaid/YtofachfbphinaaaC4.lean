/- The contract of Put. -/
import Derived.Test.YtofachfbphinaaaB2
import Derived.Test.YtofachfbphinaaaB3
import Derived.Test.YtofachfbphinaaaC1
import Derived.Test.YtofachfbphinaaaC2
import Derived.Test.YtofachfbphinaaaC3
namespace Go.Proofs.Ytofachfbphinaaa
open Go.RowKit Go.Gav Go.BigFrame

/-- A slice's cells read as l; they lie at no block of S. -/
def ArgM (w : World) (S : Nat → Prop) (ao : Option Addr) (l : List (Int × Int)) : Prop :=
  0 < l.length → ∃ g o, ao = some ⟨g, o, none⟩ ∧ ¬ S g ∧ ∀ i, i < l.length → w.cell? ⟨g, o + i * 2, none⟩ = some (.int .i64 (l.getD i (0, 0)).1) ∧ w.cell? ⟨g, o + i * 2 + 1, none⟩ = some (.int .i64 (l.getD i (0, 0)).2)

theorem foldl_insM_length (l xs : List (Int × Int)) : (l.foldl insBM xs).length = xs.length + l.length := by
  induction l generalizing xs with
  | nil => rfl
  | cons y ys ih => simp only [List.foldl_cons, ih, insBM_length, List.length_cons]; omega

theorem foldl_insM_take (l xs : List (Int × Int)) (i : Nat) (h : i < l.length) : (l.take (i + 1)).foldl insBM xs = insBM ((l.take i).foldl insBM xs) (l.getD i (0, 0)) := by
  rw [List.take_succ_eq_append_getElem h, List.foldl_append]
  simp [List.getD_eq_getElem?_getD, h]

theorem flatM_ins (xs : List (Int × Int)) (x : Int × Int) (hi : Nat) (h : HiP (fun i => (xs.getD i (0, 0)).1) xs.length (x.1) hi) :
    flatM (insBM xs x) = (flatM xs).take (hi * 2) ++ [.int .i64 x.1, .int .i64 x.2] ++ (flatM xs).drop (hi * 2) := by
  rw [insBM_at xs x hi h, flatM_take _ _ h.1, flatM_drop _ _ h.1, flatM_append, List.append_assoc]
  rfl

/-- What Put leaves. -/
def PutQM (w w' : World) (b : Nat) (v v' : Value) (zs : List (Int × Int)) : Prop :=
  BagM w' b v' zs ∧ Only (fun k => k = b ∨ v.ownBlock = some k) w w' ∧ (v'.ownBlock = v.ownBlock ∨ ∀ k, v'.ownBlock = some k → w.heap.size ≤ k)

/-- One more, at the place that was found. -/
theorem put_stepM {w w1 w2 : World} {b hi : Nat} {v v2 : Value} {ys : List (Int × Int)} {x : Int × Int} {nb : Obj} (hB : BagM w b v ys) (hhi : HiP (fun i => (ys.getD i (0, 0)).1) ys.length (x.1) hi) (o1 : Only (fun _ => False) w w1)
    (hrow : w2.ownsRow 0 49 2 v2 (ys.length + 1) ((flatM ys).take (hi * 2) ++ [.int .i64 x.1, .int .i64 x.2] ++ (flatM ys).drop (hi * 2))) (o2 : Only (fun k => v.ownBlock = some k) (w1.alloc nb) w2)
    (hv2 : v2.ownBlock = v.ownBlock ∨ ∀ k, v2.ownBlock = some k → (w1.alloc nb).heap.size ≤ k) : PutQM w (w2.setCell ⟨b, 1, none⟩ v2) b v v2 (insBM ys x) := by
  have hs := o1.size
  have h12 : Only (fun k => v.ownBlock = some k) w w2 := ((o1.alloc nb).mono (fun _ h => h.elim)).trans o2 (fun _ _ h => h)
  have hbl := lt_of_block hB.head
  have hne : v2.ownBlock ≠ some b := by
    rcases hv2 with h | h
    · rw [h]; exact hB.apart
    · intro e
      have := h b e
      simp at this
      omega
  refine ⟨⟨?_, ?_, hne, insBM_up _ _ hB.up⟩, ?_, ?_⟩
  · have := h12.keep hB.head hB.apart
    rw [hp_same this]
    rfl
  · rw [insBM_length, flatM_ins _ _ _ hhi]
    exact row_only hrow ((Only.refl (fun k => k = b) _).setCell (.inl rfl) _) (fun g hg e => hne (by rw [hg, e]))
  · exact (h12.mono (fun _ h => .inr h)).setCell (.inl (.inl rfl)) _
  · rcases hv2 with h | h
    · exact .inl h
    · refine .inr fun k hk => ?_
      have := h k hk
      simp at this
      omega

theorem PutQM.refl {w : World} {b : Nat} {v : Value} {xs : List (Int × Int)} (h : BagM w b v xs) : PutQM w w b v v xs := ⟨h, Only.refl _ _, .inl rfl⟩

theorem PutQM.trans {w w1 w2 : World} {b : Nat} {v v1 v2 : Value} {ys zs : List (Int × Int)} (h1 : PutQM w w1 b v v1 ys) (h2 : PutQM w1 w2 b v1 v2 zs) : PutQM w w2 b v v2 zs := by
  obtain ⟨_, o1, n1⟩ := h1
  obtain ⟨hB, o2, n2⟩ := h2
  have hs := o1.size
  refine ⟨hB, ?_, ?_⟩
  · refine o1.trans o2 fun j hj h => ?_
    rcases h with h | h
    · exact .inl h
    · rcases n1 with n1 | n1
      · exact .inr (by rw [← n1]; exact h)
      · have := n1 j h; omega
  · rcases n2 with n2 | n2
    · rw [n2]; exact n1
    · exact .inr fun k hk => by have := n2 k hk; omega

set_option maxRecDepth 100000 in
set_option maxHeartbeats 2000000 in
theorem putM (b : Nat) (v : Value) (xs l : List (Int × Int)) (ao : Option Addr) (cap : Nat) (w : World) (hB : BagM w b v xs) (hl : ArgM w (fun k => k = b ∨ v.ownBlock = some k) ao l) (hn : xs.length + l.length ≤ 1000) :
    Calls Try.prog 23 #[.pointer (some ⟨b, 0, none⟩), .slice ao l.length cap] w fun e w' => ∃ v', e = .returned (.tuple #[]) ∧ PutQM w w' b v v' (l.foldl insBM xs) := by
  have HB := Lib.hid hB
  have HL := Lib.hid hl
  clear hB hl
  go_enter Try.func23, Try.ntmps23
  go_wp2
  go_loopw [12] (fun vi wr => ∃ (i : Nat) (v' : Value), vi = .int .i64 i ∧ i ≤ l.length ∧ Hid (PutQM w wr b v v' ((l.take i).foldl insBM xs))) (fun vi _ => l.length - (intOf vi).toNat)
  case atStart => exact ⟨0, v, rfl, Nat.zero_le _, PutQM.refl HB.out⟩
  case round =>
    obtain ⟨i, v', rfl, hil, HQ⟩ := hrel
    by_cases hlt : i < l.length
    · obtain ⟨ys, hys⟩ : ∃ ys, ys = (l.take i).foldl insBM xs := ⟨_, rfl⟩
      have hyl : ys.length = xs.length + i := by rw [hys, foldl_insM_length, List.length_take, Nat.min_eq_left hil]
      rw [← hys] at HQ
      have hy1 : ys.length ≤ 999 := by omega
      obtain ⟨g, o, rfl, hS, hcell⟩ := HL.out (by omega)
      obtain ⟨x, hx⟩ : ∃ x, x = l.getD i (0, 0) := ⟨_, rfl⟩
      have x0 := HQ.out.2.1.cell (hcell i hlt).1 hS
      have x1 := HQ.out.2.1.cell (hcell i hlt).2 hS
      rw [← hx] at x0 x1
      have HY := Lib.hid (hys.symm ▸ hx ▸ foldl_insM_take l xs i hlt : (l.take (i + 1)).foldl insBM xs = insBM ys x)
      clear hcell hx hys hyl
      have HBr := HQ.out.1
      obtain ⟨ao', cap', rfl, hrd, hob⟩ := HBr.reads
      have hh := HBr.head
      have HH := Lib.hid (And.intro HBr hrd)
      have HOB := Lib.hid hob
      obtain ⟨b0, b1⟩ := two_cells (hp_alloc hh (Obj.cells #[Value.int .i64 x.1, .int .i64 x.2] 49))
      obtain ⟨y0, y1⟩ := two_cells (heap_alloc_new wr (Obj.cells #[Value.int .i64 x.1, .int .i64 x.2] 49))
      have HA := Lib.hid ((Only.refl (fun _ => False) wr).alloc (Obj.cells #[Value.int .i64 x.1, .int .i64 x.2] 49))
      clear HBr hrd hob hh
      go_wp2_with (first | (go_at_call 43; refine (findM b ao' ys.length cap' (fun i => ys.getD i (0, 0)) x _ (HA.out.keep HH.out.1.head id) (by omega) (HH.out.2.only HA.out (fun _ _ => id)) HH.out.1.up.get).mono ?_; rintro _ w1 ⟨_, rfl, ⟨lo, hi, rfl, hlo, hhi⟩, o1⟩; have c0 := o1.cell b0 id; have c1 := o1.cell b1 id; have z0 := o1.cell y0 id; have z1 := o1.cell y1 id))
      have O1 := Lib.hid (HA.out.trans o1 (fun _ _ h => h))
      clear b0 b1 y0 y1 x0 x1 HA o1
      have ca : ∀ ob, (w1.alloc ob).cell? ⟨b, 1, none⟩ = some (.slice ao' ys.length cap') := fun ob => hp_allocc c1 ob
      have cb : ∀ ob, ((w1.drewN 1).alloc ob).cell? ⟨b, 1, none⟩ = some (.slice ao' ys.length cap') := fun ob => hp_allocc (w := w1.drewN 1) c1 ob
      refine wp_region_tree [0, 1, 5] (.cons (.node [2] (.cons (.node [3] (.cons (.node [4, 6, 7, 8, 9, 10, 11] .nil) (.cons (.node [6] (.cons (.node [4, 7, 8, 9, 10, 11] .nil) (.cons (.node [7, 4, 8, 9, 10, 11] .nil) .nil))) .nil))) (.cons (.node [6] (.cons (.node [3] (.cons (.node [4, 7, 8, 9, 10, 11] .nil) (.cons (.node [7, 4, 8, 9, 10, 11] .nil) .nil))) (.cons (.node [7, 3, 4, 8, 9, 10, 11] .nil) .nil))) .nil))) (.cons (.node [6] (.cons (.node [2] (.cons (.node [3] (.cons (.node [4, 7, 8, 9, 10, 11] .nil) (.cons (.node [7, 4, 8, 9, 10, 11] .nil) .nil))) (.cons (.node [7, 3, 4, 8, 9, 10, 11] .nil) .nil))) (.cons (.node [7, 2, 3, 4, 8, 9, 10, 11] .nil) .nil))) .nil)) (by kernel_rfl) (by kernel_rfl) (fun _ _ _ _ h => h) ?_
      simp only [endOf, Tree.wp, Forest.wps, pick, consO, List.getElem?_toArray, List.getElem?_cons_succ, List.getElem?_cons_zero, movesOf, moveOf, and_true]
      refine ⟨?_, ?_⟩
      iterate 4 (all_goals try (go_wp2_with (fail); refine ⟨?_, ?_⟩))
      all_goals (go_wp2_with (first | (go_at_call 44; refine (insM _ ys.length hi (flatM ys) _ (row_only HH.out.1.row ((O1.out.drewN 1).alloc _) (fun _ _ h => h)) (by omega) hhi.1 _ [.int .i64 x.1, .int .i64 x.2] rfl (heap_alloc_new _ _) (own_new HH.out.1.row (O1.out.drewN 1)) (by intro u hu; simp at hu; rcases hu with rfl | rfl <;> rfl) flatM_one).mono ?_; rintro _ w2 ⟨v2, rfl, hrow, o2, hv2⟩; obtain ⟨ao2, cap2, rfl⟩ := row_slice hrow; have c2 := o2.cell (hp_allocc (w := w1.drewN 1) c1 _) HH.out.1.apart; have f2 := free_of_row (j := 1) (o2.keep (hp_alloc (w := w1.drewN 1) (O1.out.keep HH.out.1.head id) _) HH.out.1.apart))))
      all_goals go_roundw
      all_goals (first | (exact ⟨i + 1, _, by go_num, by omega, by rw [HY.out]; exact HQ.out.trans (put_stepM HH.out.1 hhi O1.out hrow o2.of_drew hv2)⟩) | (simp [intOf]; omega))
    · obtain rfl : i = l.length := by omega
      go_wp2
      exact bodyPost_end (results_none rfl _ _ _) rfl ⟨v', rfl, by have := HQ.out; rwa [List.take_length] at this⟩

end Go.Proofs.Ytofachfbphinaaa
