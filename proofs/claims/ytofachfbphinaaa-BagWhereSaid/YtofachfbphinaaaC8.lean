/- The contract of slices.Delete of one element. -/
import Derived.Test.YtofachfbphinaaaC5
import Derived.Test.YtofachfbphinaaaC6
import Derived.Test.YtofachfbphinaaaB1
import Derived.Test.YtofachfbphinaaaReg
import Derived.Deep.QuietTactic
import Derived.BigQuiet
import Derived.Lib.AppendZeros
namespace Go.Proofs.Ytofachfbphinaaa
open Go.RowKit Go.Gav Go.BigFrame

theorem zc_two : ∀ v ∈ (Builtin.zeroCells (Value.agg #[.int .i64 0, .int .i64 0]).cells 1).toList, v.oneCell' = true := by
  intro v hv
  simp [Builtin.zeroCells, Value.cells] at hv
  obtain ⟨a, ha, rfl⟩ := hv
  rcases (by omega : a = 0 ∨ a = 1) with rfl | rfl <;> rfl

set_option maxRecDepth 100000 in
set_option maxHeartbeats 1000000 in
theorem delM (g m cap i : Nat) (cells : List Value) (w : World) (h : w.ownsRow 0 49 2 (.slice (some ⟨g, 0, none⟩) (m + 1) cap) (m + 1) cells) (hn : m ≤ 1000) (hi : i ≤ m) (h1 : ∀ u ∈ cells, u.oneCell' = true) :
    Calls Try.prog 45 #[.slice (some ⟨g, 0, none⟩) (m + 1) cap, .int .i64 i, .int .i64 ((i : Int) + 1)] w fun e w' => e = .returned (.slice (some ⟨g, 0, none⟩) m cap) ∧
      w'.ownsRow 0 49 2 (.slice (some ⟨g, 0, none⟩) m cap) m (cells.take (i * 2) ++ cells.drop ((i + 1) * 2)) ∧ Only (fun k => k = g) w w' := by
  obtain ⟨i0, hi0, hz0, hz1, hz2⟩ := info_parts info49
  obtain ⟨hcl, ⟨h0, _⟩ | ⟨g', cap', cur, he, _, hg, hnc, hcm, hcs, ht⟩⟩ := h
  · cases h0
  cases he
  have hmc : ¬ cap = m := by omega
  obtain ⟨A, hA⟩ : ∃ A : Addr, (if cap = i + 1 then some (⟨g, 0, none⟩ : Addr) else some ⟨g, (i + 1) * 2, none⟩) = some A := by split <;> exact ⟨_, rfl⟩
  obtain ⟨news, hnews⟩ : ∃ news, news = cells.drop ((i + 1) * 2) := ⟨_, rfl⟩
  have hnl : news.length = (m - i) * 2 := by rw [hnews, List.length_drop, hcl]; omega
  have hsrc : ∀ nq j u, news[j]? = some u → (w.drewN nq).cell? (A.add j) = some u := by
    intro nq j u hj
    have hlt : j < news.length := (List.getElem?_eq_some_iff.1 hj).1
    rw [if_neg (by omega)] at hA
    cases hA
    have e : (⟨g, (i + 1) * 2, none⟩ : Addr).add j = ⟨g, (i + 1) * 2 + j, none⟩ := by unfold Addr.add; split <;> simp_all
    rw [e]
    show w.cell? _ = _
    rw [cell_of_row w g _ _ _ _ hg, ← hj, hnews, List.getElem?_drop, ← ht, List.getElem?_take_of_lt (by omega), Array.getElem?_toList]
    
  obtain ⟨r1, hr1⟩ : ∃ r1, r1 = (cur.toList.take (i * 2) ++ news ++ cur.toList.drop (i * 2 + news.length)).toArray := ⟨_, rfl⟩
  have hrun : ∀ nq, (Builtin.append_ #[51, 51] 51 #[.slice (some ⟨g, 0, none⟩) i cap, .slice (if cap = i + 1 then some (⟨g, 0, none⟩ : Addr) else some ⟨g, (i + 1) * 2, none⟩) (m - i) (cap - (i + 1))]).run Try.prog (w.drewN nq) =
      .ok (.slice (some ⟨g, 0, none⟩) m cap) ((w.drewN nq).setRow g r1) := by
    intro nq
    have := run_append_room (P := Try.prog) (w := w.drewN nq) 51 51 49 i0 Try.underlying51 hi0 g i cap cur hg A (m - i) (cap - (i + 1)) news (by rw [hz1, hnl]) (hsrc nq) (fun u hu => h1 u (by rw [hnews] at hu; exact List.mem_of_mem_drop hu)) (by omega) (by rw [hz1, hcs]; omega)
    rw [hz1, show i + (m - i) = m by omega, ← hr1] at this
    rw [hA]
    exact this
  have hr1s : r1.size = cap * 2 := by
    rw [hr1]
    simp only [List.size_toArray, List.length_append, List.length_take, List.length_drop, Array.length_toList, hcs, hnl]
    omega
  have hr1t : r1.toList.take (m * 2) = cells.take (i * 2) ++ cells.drop ((i + 1) * 2) := by
    rw [hr1, ← hnews]
    show (cur.toList.take (i * 2) ++ news ++ cur.toList.drop (i * 2 + news.length)).take (m * 2) = _
    have hl : (cur.toList.take (i * 2)).length = i * 2 := by rw [List.length_take, Array.length_toList, hcs]; omega
    rw [List.take_left' (by rw [List.length_append, hl, hnl]; omega), ← ht, List.take_take]
    congr 2
    omega
  obtain ⟨r2, hr2⟩ : ∃ r2, r2 = (r1.toList.take (m * 2) ++ (Builtin.zeroCells (.agg #[.int .i64 0, .int .i64 0] : Value).cells 1).toList ++ r1.toList.drop (m * 2 + 1 * (.agg #[.int .i64 0, .int .i64 0] : Value).cells.size)).toArray := ⟨_, rfl⟩
  have hr2s : r2.size = cap * 2 := by
    rw [hr2]
    have : (Builtin.zeroCells (.agg #[.int .i64 0, .int .i64 0] : Value).cells 1).size = 2 := by rw [size_zeroCells]; rfl
    have e2 : (.agg #[.int .i64 0, .int .i64 0] : Value).cells.size = 2 := rfl
    simp only [List.size_toArray, List.length_append, List.length_take, List.length_drop, Array.length_toList, hr1s, this, e2]
    omega
  have hr2t : r2.toList.take (m * 2) = cells.take (i * 2) ++ cells.drop ((i + 1) * 2) := by
    rw [hr2, ← hr1t]
    show (r1.toList.take (m * 2) ++ _ ++ _).take (m * 2) = _
    rw [List.append_assoc]
    exact List.take_left' (by rw [List.length_take, Array.length_toList, hr1s]; omega)
  have HG := Lib.hid (fun nq r => setRow_heap (w.drewN nq) g cur r 49 (0, 0) (show (w.drewN nq).heap[g]? = _ from hg))
  have HRUN := Lib.hid hrun
  have hclr : ∀ nq, (Builtin.clear_ #[51] 0 #[.slice (some ⟨g, m * 2, none⟩) 1 (cap - m)]).run Try.prog ((w.drewN nq).setRow g r1) = .ok (.tuple #[]) (((w.drewN nq).setRow g r1).setRow g r2) := by
    intro nq
    have := run_clearK (P := Try.prog) ((w.drewN nq).setRow g r1) 51 49 0 i0 (.agg #[.int .i64 0, .int .i64 0]) Try.underlying51 hi0 hz0 g (m * 2) 1 (cap - m) (by decide) r1 49 (HG.out nq r1) (by rw [hr1s]; show _ + 1 * 2 ≤ _; omega) (by intro v hv; have := zc_two v hv; exact this)
    rw [← hr2] at this
    exact this
  have HR1S := Lib.hid hr1s
  have HR2 := Lib.hid hr2
  have hlen : (cells.take (i * 2) ++ cells.drop ((i + 1) * 2)).length = m * 2 := by rw [← hnews, List.length_append, List.length_take, hcl, hnl]; omega
  have HEND := Lib.hid (show ∀ nq, (((w.drewN nq).setRow g r1).setRow g r2).ownsRow 0 49 2 (.slice (some ⟨g, 0, none⟩) m cap) m (cells.take (i * 2) ++ cells.drop ((i + 1) * 2)) ∧ Only (fun k => k = g) w (((w.drewN nq).setRow g r1).setRow g r2) from fun nq =>
    ⟨⟨by simpa using hlen, .inr ⟨g, cap, r2, rfl, Nat.zero_le _, setRow_heap _ _ _ _ _ _ (HG.out nq r1), by omega, hcm, hr2s, by simpa using hr2t⟩⟩,
      only_setRow (S := fun k => k = g) (only_setRow (S := fun k => k = g) ((Only.refl (fun k => k = g) _).drewN nq) _ _ (.inl rfl)) _ _ (.inl rfl)⟩)
  clear hrun hsrc hA hnews hnl hr1 hr1t hr2 hr2s hr2t hr1s hg ht hcl h1 hcs hlen
  have hni : ¬ m + 1 = i := by omega
  have hii : ¬ ((i : Int) = (i : Int) + 1) := by omega
  go_enter Try.func45, Try.ntmps45
  go_wp2_with (fail)
  refine wp_region_mixed [0, 1, 3, 4] [2, 5] 6 [7] (by kernel_rfl) (by kernel_rfl) (fun _ _ _ _ h => h) ?_
  simp only [pick, consO, List.getElem?_toArray, List.getElem?_cons_succ, List.getElem?_cons_zero, movesOf, moveOf]
  conv => arg 6; simp [Act.put, Act.eval]
  repeat (go_big_quiet_step (fail))
  refine wpQuiet_nil ?_
  rintro _ ⟨nq, rfl⟩
  refine Lib.wpList_append_run _ rfl (.tmp 22) (.tmp 25) 51 51 rfl _ _ rfl rfl _ _ (HRUN.out nq) ?_
  go_wp2
  all_goals
    go_ret
    first
      | exact ⟨rfl, HEND.out nq⟩
      | (subst_vars; exact ⟨rfl, HEND.out nq⟩)
      | (have hcc : cap = i + 1 := by assumption; rw [← hcc]; exact ⟨rfl, HEND.out nq⟩)

end Go.Proofs.Ytofachfbphinaaa
