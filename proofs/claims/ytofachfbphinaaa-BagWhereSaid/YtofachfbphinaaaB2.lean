/- The contract of slices.Insert of one element. -/
import Derived.Test.YtofachfbphinaaaRows
import Derived.Test.YtofachfbphinaaaB1
import Derived.Test.YtofachfbphinaaaTree
import Derived.Test.YtofachfbphinaaaRng
import Derived.Deep.QuietTactic
import Derived.BigQuiet
import Derived.RegionTactic
import Derived.ChangeAlike
import Derived.Lib.Hide
import Derived.Lib.Overlaps
import Derived.Outline
import Derived.Laws.AppendOwn
namespace Go.Proofs.Ytofachfbphinaaa
open Go.RowKit Go.Gav Go.BigFrame

theorem info3 : (Try.prog.info? 3).map (fun i => (i.zero, i.size, i.bytes)) = some (some (.int .i64 0), 1, 8) := by kernel_rfl

theorem addbI (b j : Nat) : ((⟨b, 0, none⟩ : Addr).add j).block = b := by
  unfold Addr.add
  split <;> rfl

theorem liesI {w : World} {g : Nat} {cs : List Value} {t : TypeId} (h : w.heap[g]? = some (.cells cs.toArray t (0, 0))) : ∀ j u, cs[j]? = some u → w.cell? ((⟨g, 0, none⟩ : Addr).add j) = some u := by
  intro j u hj
  have e : (⟨g, 0, none⟩ : Addr).add j = ⟨g, j, none⟩ := by unfold Addr.add; split <;> simp_all
  rw [e, cell_of_row w g j _ _ _ h]
  simpa using hj

theorem over_listI {X new Z rest r0 r1 r2 : List Value} {o k : Nat} (hX : X.length = o) (hn : new.length = k) (h0 : r0 = X ++ Z) (h1 : r1 = r0.take o ++ new ++ r0.drop (o + k)) (h2 : r2 = r1.take (o + k) ++ rest ++ r1.drop (o + k + rest.length)) :
    r2.take (o + k + rest.length) = X ++ new ++ rest := by
  have e1 : r0.take o = X := by rw [h0]; exact List.take_left' hX
  rw [e1] at h1
  have e2 : r1.take (o + k) = X ++ new := by rw [h1]; exact List.take_left' (by rw [List.length_append, hX, hn])
  rw [e2] at h2
  rw [h2]
  exact List.take_left' (by rw [List.length_append, List.length_append, hX, hn])

theorem shift_listI {new cells r1 r2 cur : List Value} {o k n : Nat} (hn : new.length = k) (hc : cur.take n = cells) (hl : cells.length = n) (ho : o ≤ n) (h1 : r1 = cur.take (o + k) ++ cells.drop o ++ cur.drop (o + k + (cells.drop o).length))
    (h2 : r2 = r1.take o ++ new ++ r1.drop (o + k)) (hcur : n + k ≤ cur.length) : r2.take (n + k) = cells.take o ++ new ++ cells.drop o := by
  have e1 : r1.take o = cells.take o := by
    rw [h1, List.append_assoc, List.take_append_of_le_length (by rw [List.length_take]; omega), List.take_take, ← hc, List.take_take]
    congr 1
    omega
  have e2 : r1.drop (o + k) = cells.drop o ++ cur.drop (o + k + (cells.drop o).length) := by
    rw [h1, List.append_assoc]
    exact List.drop_left' (by rw [List.length_take]; omega)
  rw [h2, e1, e2, ← List.append_assoc]
  exact List.take_left' (by rw [List.length_append, List.length_append, List.length_take, List.length_drop, hl, hn]; omega)

set_option maxRecDepth 100000 in
theorem ins_nilI (w : World) (vb : Nat) (new : List Value) (hnl : new.length = 1)
    (hnb : w.heap[vb]? = some (.cells new.toArray 3 (0, 0))) (hn1 : ∀ u ∈ new, u.oneCell' = true) :
    Calls Try.prog 48 #[.slice none 0 0, .int .i64 0, .slice (some ⟨vb, 0, none⟩) 1 1] w fun e w' => ∃ v', e = .returned v' ∧ w'.ownsRow w.heap.size 3 1 v' 1 new ∧ Only (fun _ => False) w w' := by
  obtain ⟨i0, hi0, hz0, hz1, hz2⟩ := info_parts info3
  have HNB := Lib.hid (liesI hnb)
  clear hnb
  go_enter Try.func48, Try.ntmps48
  go_wp2_with (at_builtin; refine wpList_append_own _ rfl (.tmp 23) (.tmp 24) 22 rfl w.heap.size 3 i0 (.int .i64 0) 1 8 Try.underlying22 hi0 hz0 hz1 hz2 rfl (by decide) (.slice none 0 0) 0 [] rfl (World.ownsRow_nil _ _ _ _) ⟨vb, 0, none⟩ 1 1 new rfl (by rw [hnl]) HNB.out hn1 (by unfold maxLen; omega) (by omega) (Nat.le_refl _) ?_; intro vd wd ownd hgrd _; have OWND := Lib.hid ownd; have GD : Hid (w.grownBy wd none) := hgrd; clear ownd hgrd)
  go_ret
  exact ⟨_, rfl, by simpa using OWND.out, (Only.refl _ w).grown GD.out (fun k hk => by cases hk)⟩

set_option maxRecDepth 100000 in
theorem ins_growI (g n : Nat) (cells : List Value) (w : World) (h : w.ownsRow 0 3 1 (.slice (some ⟨g, 0, none⟩) n n) n cells) (hn : n ≤ 1000) (vb : Nat) (new : List Value) (hnl : new.length = 1)
    (hnb : w.heap[vb]? = some (.cells new.toArray 3 (0, 0))) :
    Calls Try.prog 48 #[.slice (some ⟨g, 0, none⟩) n n, .int .i64 n, .slice (some ⟨vb, 0, none⟩) 1 1] w fun e w' => ∃ v', e = .returned v' ∧ w'.ownsRow w.heap.size 3 1 v' (n + 1) (cells ++ new) ∧ Only (fun _ => False) w w' := by
  obtain ⟨i0, hi0, hz0, hz1, hz2⟩ := info_parts info3
  have hc1 := h.cells (g := g) rfl
  have hl := h.1
  have hrun := run_append_grow (P := Try.prog) w 22 22 3 i0 (.int .i64 0) Try.underlying22 hi0 hz0 ⟨g, 0, none⟩ n n cells (by rw [hl, hz1]) hc1 ⟨vb, 0, none⟩ 1 1 new (by rw [hnl, hz1]) (liesI hnb) (by omega) (by omega)
    (growslice_fits (by omega) (by rw [hz2]; omega))
  have hge := grownCap_ge w (n + 1) n 3
  have hle := grownCap_le_maxLen w (n + 1) n 3 (by unfold maxLen; omega)
  obtain ⟨C, hC⟩ : ∃ C, C = grownCap w (n + 1) n 3 := ⟨_, rfl⟩
  rw [← hC] at hrun hge hle
  obtain ⟨r0, hr0⟩ : ∃ r, r = cells.toArray ++ new.toArray ++ Builtin.zeroCells (.int .i64 0 : Value).cells (C - (n + 1)) := ⟨_, rfl⟩
  rw [← hr0] at hrun
  have HRUN := Lib.hid hrun
  have HR0 := Lib.hid hr0
  have HLE := Lib.hid hle
  clear hrun hr0 hC hle hc1 hnb
  go_enter Try.func48, Try.ntmps48
  go_wp2_with (first | (at_builtin; refine Lib.wpList_append_run _ rfl (.tmp 23) (.tmp 24) 22 22 rfl (.slice (some ⟨g, 0, none⟩) n n) (.slice (some ⟨vb, 0, none⟩) 1 1) rfl rfl _ _ HRUN.out ?_))
  go_ret
  have e5 : (.int .i64 0 : Value).cells.size = 1 := rfl
  have e3 : (C - (n + 1)) * 1 = C * 1 - (n + 1) * 1 := Nat.sub_mul _ _ _
  have e4 : (n + 1) * 1 ≤ C * 1 := Nat.mul_le_mul_right _ hge
  refine ⟨_, rfl, ⟨?_, .inr ⟨w.heap.size, C, r0, rfl, Nat.le_refl _, heap_alloc_new w.drew _, hge, HLE.out, ?_, ?_⟩⟩, (Only.refl _ w).drew.alloc _⟩
  · rw [List.length_append, hnl, hl]; omega
  · rw [HR0.out]
    simp only [Array.size_append, List.size_toArray, size_zeroCells, e5, hl, hnl]
    omega
  · rw [HR0.out, Array.toList_append, Array.toList_append]
    exact List.take_left' (by rw [List.length_append, hl, hnl]; omega)

set_option maxRecDepth 100000 in
theorem ins_roomI (g n cap : Nat) (cells : List Value) (w : World) (h : w.ownsRow 0 3 1 (.slice (some ⟨g, 0, none⟩) n cap) n cells) (hn : n ≤ 1000) (hc : n + 1 ≤ cap) (vb : Nat) (new : List Value) (hnl : new.length = 1)
    (hnb : w.heap[vb]? = some (.cells new.toArray 3 (0, 0))) (hn1 : ∀ u ∈ new, u.oneCell' = true) :
    Calls Try.prog 48 #[.slice (some ⟨g, 0, none⟩) n cap, .int .i64 n, .slice (some ⟨vb, 0, none⟩) 1 1] w fun e w' => e = .returned (.slice (some ⟨g, 0, none⟩) (n + 1) cap) ∧ w'.ownsRow 0 3 1 (.slice (some ⟨g, 0, none⟩) (n + 1) cap) (n + 1) (cells ++ new) ∧ Only (fun k => k = g) w w' := by
  obtain ⟨i0, hi0, hz0, hz1, hz2⟩ := info_parts info3
  obtain ⟨cur, hg, hcm, hcs, htk⟩ : ∃ cur : Array Value, w.heap[g]? = some (.cells cur 3 (0, 0)) ∧ cap ≤ maxLen ∧ cur.size = cap * 1 ∧ cur.toList.take (n * 1) = cells := by
    rcases h.2 with ⟨hv, _⟩ | ⟨g', cap', cur, hv, hb, hgg, hn, hc, hs, ht⟩
    · cases hv
    · cases hv
      exact ⟨cur, hgg, hc, hs, ht⟩
  have hl := h.1
  have hrun := run_append_room (P := Try.prog) w 22 22 3 i0 Try.underlying22 hi0 g n cap cur hg ⟨vb, 0, none⟩ 1 1 new (by rw [hnl, hz1]) (liesI hnb) hn1 hc (by rw [hz1, hnl, hcs]; omega)
  obtain ⟨r0, hr0⟩ : ∃ r, r = (cur.toList.take (n * i0.size) ++ new ++ cur.toList.drop (n * i0.size + new.length)).toArray := ⟨_, rfl⟩
  rw [← hr0] at hrun
  have HRUN := Lib.hid hrun
  have HR0 := Lib.hid hr0
  have HG := Lib.hid hg
  have hci : ¬ cap = n := by omega
  unfold maxLen at hcm
  clear hrun hr0 hg hnb
  go_enter Try.func48, Try.ntmps48
  go_wp2_with (first | (at_builtin; refine Lib.wpList_append_run _ rfl (.tmp 23) (.tmp 24) 22 22 rfl (.slice (some ⟨g, 0, none⟩) n cap) (.slice (some ⟨vb, 0, none⟩) 1 1) rfl rfl _ _ HRUN.out ?_))
  go_ret
  refine ⟨rfl, ⟨?_, .inr ⟨g, cap, r0, rfl, Nat.zero_le _, setRow_heap _ _ _ _ _ _ HG.out, hc, by unfold maxLen; omega, ?_, ?_⟩⟩, only_setRow (Only.refl _ w) _ _ (.inl rfl)⟩
  · rw [List.length_append, hnl, hl]; omega
  · rw [HR0.out, hz1]
    simp only [List.size_toArray, List.length_append, List.length_take, List.length_drop, Array.length_toList, hcs, hnl]
    omega
  · rw [HR0.out, hz1, htk]
    exact List.take_left' (by rw [List.length_append, hl, hnl]; omega)

set_option maxRecDepth 100000 in
theorem ins_overI (g n cap i : Nat) (cells : List Value) (w : World) (h : w.ownsRow 0 3 1 (.slice (some ⟨g, 0, none⟩) n cap) n cells) (hn : n ≤ 1000) (hi : i < n) (hc : cap = n) (vb : Nat) (new : List Value) (hnl : new.length = 1)
    (hnb : w.heap[vb]? = some (.cells new.toArray 3 (0, 0))) (hn1 : ∀ u ∈ new, u.oneCell' = true) (h1 : ∀ u ∈ cells, u.oneCell' = true) :
    Calls Try.prog 48 #[.slice (some ⟨g, 0, none⟩) n cap, .int .i64 i, .slice (some ⟨vb, 0, none⟩) 1 1] w fun e w' => ∃ v', e = .returned v' ∧ w'.ownsRow w.heap.size 3 1 v' (n + 1) (cells.take (i * 1) ++ new ++ cells.drop (i * 1)) ∧ Only (fun _ => False) w w' := by
  obtain ⟨i0, hi0, hz0, hz1, hz2⟩ := info_parts info3
  subst hc
  have hci : ¬ cap = i := by omega
  have hz3 : ((i : Int) == (cap : Int)) = false := by simp; omega
  have hmul : i * 1 ≤ cells.length := by rw [h.1]; exact Nat.mul_le_mul_right _ (by omega)
  have hlo : (cells.take (i * 1)).length = i * i0.size := by rw [List.length_take, hz1]; omega
  have hc1 := h.cells (g := g) rfl
  have hlt := h.lt g rfl
  have hvb := lt_of_block hnb
  have hrun := run_append_zeros (P := Try.prog) w 22 3 22 3 i0 (.int .i64 0) Try.underlying22 .i64 Try.underlying3 hi0 hz0 ⟨g, 0, none⟩ i cap (cells.take (i * 1)) hlo (fun j u hj => hc1 j u (by rw [List.getElem?_take] at hj; split at hj; exact hj; cases hj))
    (cap + 1 - i) (by omega) (by rw [hz1]; omega) (by omega) (by omega) (by rw [hz2]; omega) (by omega)
  rw [show i + (cap + 1 - i) = cap + 1 by omega] at hrun
  have hge := grownCap_ge w (cap + 1) cap 3
  have hle := grownCap_le_maxLen w (cap + 1) cap 3 (by unfold maxLen; omega)
  obtain ⟨C, hC⟩ : ∃ C, C = grownCap w (cap + 1) cap 3 := ⟨_, rfl⟩
  rw [← hC] at hrun hge hle
  have HRUN := Lib.hid hrun
  have HC1 := Lib.hid hc1
  have HNB := Lib.hid hnb
  have HL := Lib.hid h.1
  unfold maxLen at hle
  clear hnb h hrun hc1 hC hlo
  obtain ⟨rw0, hrw0⟩ : ∃ r, r = (List.take (i * 1) cells).toArray ++ Builtin.zeroCells (.int .i64 0 : Value).cells (cap + 1 - i) ++ Builtin.zeroCells (.int .i64 0 : Value).cells (C - (cap + 1)) := ⟨_, rfl⟩
  rw [← hrw0] at HRUN
  have HR0 := Lib.hid hrw0
  have hrs : rw0.size = C * 1 := by
    have e1 : i * 1 ≤ (cap + 1) * 1 := Nat.mul_le_mul_right _ (by omega)
    have e2 : (cap + 1 - i) * 1 = (cap + 1) * 1 - i * 1 := Nat.sub_mul _ _ _
    have e3 : (C - (cap + 1)) * 1 = C * 1 - (cap + 1) * 1 := Nat.sub_mul _ _ _
    have e4 : (cap + 1) * 1 ≤ C * 1 := Nat.mul_le_mul_right _ hge
    have e5 : (.int .i64 0 : Value).cells.size = 1 := rfl
    rw [hrw0]
    simp only [Array.size_append, List.size_toArray, List.length_take, size_zeroCells, e5]
    omega
  clear hrw0
  have hCi : ¬ C = i := by omega
  have hCi1 : ¬ C = i + 1 := by omega
  obtain ⟨r1, hr1⟩ : ∃ r, r = (rw0.toList.take (i) ++ new ++ rw0.toList.drop (i + new.length)).toArray := ⟨_, rfl⟩
  obtain ⟨r2, hr2⟩ : ∃ r, r = (r1.toList.take (i + 1) ++ cells.drop (i) ++ r1.toList.drop (i + 1 + (cells.drop (i)).length)).toArray := ⟨_, rfl⟩
  have hoff : i + 1 ≤ C * 1 := by omega
  have hnl2 : (cells.drop (i)).length = cap * 1 - i := by rw [List.length_drop, HL.out]
  have hr1s : r1.size = C * 1 := by
    rw [hr1]
    simp only [List.size_toArray, List.length_append, List.length_take, List.length_drop, Array.length_toList, hrs, hnl]
    omega
  obtain ⟨W2, hW2⟩ : ∃ W2, W2 = ((w.alloc (Obj.cells rw0 3)).drew).setRow w.heap.size r1 := ⟨_, rfl⟩
  have hb0 : ((w.alloc (Obj.cells rw0 3)).drew).heap[w.heap.size]? = some (.cells rw0 3 (0, 0)) := heap_alloc_new w _
  have hb1 : W2.heap[w.heap.size]? = some (.cells r1 3 (0, 0)) := by rw [hW2]; exact setRow_heap _ _ _ _ _ _ hb0
  have hO2 : Only (fun _ => False) w W2 := by rw [hW2]; exact only_setRow ((Only.refl _ w).alloc _).drew _ _ (.inr (Nat.le_refl _))
  have hcp1 : (Builtin.copy_ #[22, 22] 3 #[.slice (some ⟨w.heap.size, i, none⟩) (cap + 1 - i) (C - i), .slice (some ⟨vb, 0, none⟩) 1 1]).run Try.prog ((w.alloc (Obj.cells rw0 3)).drew) = .ok (.int .i64 1) W2 := by
    rw [hW2, hr1]
    exact run_copyK (P := Try.prog) _ 22 22 3 3 i0 w.heap.size (i) (cap + 1 - i) (C - i) ⟨vb, 0, none⟩ 1 1 1 rw0 3 new Try.underlying22 hi0 hb0 (Nat.min_eq_left (show 1 ≤ cap + 1 - i by omega)) (by rw [hnl, hz1])
      (fun j u hj => ((Only.refl (fun _ => False) w).alloc _).drew.cell (liesI HNB.out j u hj) id) (by rw [hnl, hrs]; omega) hn1
  have hcp2 : ∀ nq, (Builtin.copy_ #[22, 22] 3 #[.slice (some ⟨w.heap.size, i + 1, none⟩) (cap - i) (C - (i + 1)), .slice (some ⟨g, i, none⟩) (cap - i) (cap - i)]).run Try.prog (W2.drewN nq) = .ok (.int .i64 ((cap - i : Nat) : Int)) ((W2.drewN nq).setRow w.heap.size r2) := fun nq => by
    rw [hr2]
    refine run_copyK (P := Try.prog) _ 22 22 3 3 i0 w.heap.size (i + 1) (cap - i) (C - (i + 1)) ⟨g, i, none⟩ (cap - i) (cap - i) (cap - i) r1 3 (cells.drop (i)) Try.underlying22 hi0 hb1 (Nat.min_self _) (by rw [hnl2, hz1]; omega)
      (fun j u hj => ?_) (by rw [hnl2, hr1s]; omega) (fun u hu => h1 u (List.mem_of_mem_drop hu))
    rw [List.getElem?_drop] at hj
    have e : (⟨g, i, none⟩ : Addr).add j = (⟨g, 0, none⟩ : Addr).add (i + j) := by
      have h0 : ∀ o j, (⟨g, o, none⟩ : Addr).add j = ⟨g, o + j, none⟩ := fun o j => by unfold Addr.add; split <;> simp_all
      rw [h0, h0, Nat.zero_add]
    rw [e]
    exact (hO2.drewN nq).cell (HC1.out _ _ hj) id
  have HR2 := Lib.hid hr2
  have HR1 := Lib.hid hr1
  have HO2 := Lib.hid hO2
  have HB1 := Lib.hid hb1
  clear hr1 hr2 hW2 hb0 hb1 hO2
  go_enter Try.func48, Try.ntmps48
  go_wp2_with (first | (at_builtin; refine Lib.wpList_append_run _ rfl (.tmp 34) (.tmp 39) 22 3 rfl (.slice (some ⟨g, 0, none⟩) i cap) (.int .i64 ((cap + 1 - i : Nat) : Int)) rfl (by show Value.int .i64 _ = _; congr 1; omega) _ _ HRUN.out ?_))
  refine wp_region_mixed [0, 1, 2, 5, 6] [3, 4, 7] 8 [] (by kernel_rfl) (by kernel_rfl) (fun _ _ _ _ h => h) ?_
  simp only [pick, consO, List.getElem?_toArray, List.getElem?_cons_succ, List.getElem?_cons_zero, movesOf, moveOf]
  conv => arg 6; simp [Act.put, Act.eval]
  repeat (go_big_quiet_step (fail))
  refine wpQuiet_nil ?_
  rintro _ ⟨nq, rfl⟩
  go_wp2
  go_ret
  refine ⟨_, rfl, ⟨?_, .inr ⟨w.heap.size, C, r2, rfl, Nat.le_refl _, setRow_heap _ _ _ _ _ _ (show (W2.drewN nq).heap[w.heap.size]? = _ from HB1.out), hge, hle, ?_, ?_⟩⟩, only_setRow (HO2.out.drewN nq) _ _ (.inr (Nat.le_refl _))⟩
  · rw [List.length_append, List.length_append, List.length_take, List.length_drop, hnl, HL.out]
    omega
  · rw [HR2.out]
    simp only [List.size_toArray, List.length_append, List.length_take, List.length_drop, Array.length_toList, hr1s, HL.out]
    omega
  · have e0 : rw0.toList = List.take (i * 1) cells ++ (Builtin.zeroCells (.int .i64 0 : Value).cells (cap + 1 - i) ++ Builtin.zeroCells (.int .i64 0 : Value).cells (C - (cap + 1))).toList := by
      rw [HR0.out]; simp
    have hX : (List.take (i * 1) cells).length = i * 1 := by rw [List.length_take]; omega
    have := over_listI (o := i * 1) (k := 1) hX hnl e0 (r1 := r1.toList) (r2 := r2.toList) (rest := cells.drop (i * 1)) (by rw [HR1.out]; simp [hnl]) (by rw [HR2.out]; simp)
    rw [← this]
    congr 1
    rw [List.length_drop, HL.out]
    omega

set_option maxRecDepth 100000 in
theorem ins_shiftI (g n cap i : Nat) (cells : List Value) (w : World) (h : w.ownsRow 0 3 1 (.slice (some ⟨g, 0, none⟩) n cap) n cells) (hn : n ≤ 1000) (hi : i < n) (hc : n + 1 ≤ cap) (vb : Nat) (new : List Value) (hnl : new.length = 1)
    (hnb : w.heap[vb]? = some (.cells new.toArray 3 (0, 0))) (hne : vb ≠ g) (hn1 : ∀ u ∈ new, u.oneCell' = true) (h1 : ∀ u ∈ cells, u.oneCell' = true) :
    Calls Try.prog 48 #[.slice (some ⟨g, 0, none⟩) n cap, .int .i64 i, .slice (some ⟨vb, 0, none⟩) 1 1] w fun e w' => e = .returned (.slice (some ⟨g, 0, none⟩) (n + 1) cap) ∧ w'.ownsRow 0 3 1 (.slice (some ⟨g, 0, none⟩) (n + 1) cap) (n + 1) (cells.take (i * 1) ++ new ++ cells.drop (i * 1)) ∧ Only (fun k => k = g) w w' := by
  obtain ⟨i0, hi0, hz0, hz1, hz2⟩ := info_parts info3
  have hci : ¬ cap = i := by omega
  have hci1 : ¬ cap = i + 1 := by omega
  have hz3 : ((i : Int) == (n : Int)) = false := by simp; omega
  have hz4 : ¬ (cap : Int) < (n : Int) + 1 := by omega
  obtain ⟨cur, hg, hcm, hcs, htk⟩ : ∃ cur : Array Value, w.heap[g]? = some (.cells cur 3 (0, 0)) ∧ cap ≤ maxLen ∧ cur.size = cap * 1 ∧ cur.toList.take (n * 1) = cells := by
    rcases h.2 with ⟨hv, _⟩ | ⟨g', cap', cur, hv, hb, hgg, hn, hc, hs, ht⟩
    · cases hv
    · cases hv
      exact ⟨cur, hgg, hc, hs, ht⟩
  unfold maxLen at hcm
  have hl := h.1
  have hc1 := h.cells (g := g) rfl
  have hnl2 : (cells.drop (i)).length = n * 1 - i := by rw [List.length_drop, hl]
  obtain ⟨r1, hr1⟩ : ∃ r, r = (cur.toList.take (i + 1) ++ cells.drop (i) ++ cur.toList.drop (i + 1 + (cells.drop (i)).length)).toArray := ⟨_, rfl⟩
  have hr1s : r1.size = cap * 1 := by
    rw [hr1]
    simp only [List.size_toArray, List.length_append, List.length_take, List.length_drop, Array.length_toList, hcs, hl]
    omega
  obtain ⟨r2, hr2⟩ : ∃ r, r = (r1.toList.take (i) ++ new ++ r1.toList.drop (i + new.length)).toArray := ⟨_, rfl⟩
  have hvb := lt_of_block hnb
  have hov : ∀ lb cb, (callFunc 55 #[.slice (some ⟨vb, 0, none⟩) 1 1, .slice (some ⟨g, i + 1, none⟩) lb cb]).run Try.prog w = .ok (.value (.bool false)) w := fun lb cb => by
    rw [run_callFunc_extern Try.func55 (by kernel_rfl) (by kernel_rfl) (by kernel_rfl) (e := Extern.SlicesOverlaps.overlaps #[22, 22] #[4]) (by kernel_rfl),
      Lib.run_overlaps_apart w 22 4 3 Try.underlying22 1 (fun w => by simp [sizeOf, typeInfo, hi0, hz1]) ⟨vb, 0, none⟩ ⟨g, i + 1, none⟩ 1 1 lb cb hne 3 3 new.toArray.size cur.size (by simp [World.shape?, hnb]) (by simp [World.shape?, hg]) (by rw [hcs]; omega) (free_of_row hnb) (free_of_row hnb)]
    rfl
  have hcp1 : ∀ nq, (Builtin.copy_ #[22, 22] 3 #[.slice (some ⟨g, i + 1, none⟩) (n - i) (cap - (i + 1)), .slice (some ⟨g, i, none⟩) (n + 1 - i) (cap - i)]).run Try.prog (w.drewN nq) = .ok (.int .i64 ((n - i : Nat) : Int)) ((w.drewN nq).setRow g r1) := fun nq => by
    rw [hr1]
    refine run_copyK (P := Try.prog) _ 22 22 3 3 i0 g (i + 1) (n - i) (cap - (i + 1)) ⟨g, i, none⟩ (n + 1 - i) (cap - i) (n - i) cur 3 (cells.drop (i)) Try.underlying22 hi0 hg (Nat.min_eq_right (by omega)) (by rw [hnl2, hz1]; omega)
      (fun j u hj => ?_) (by rw [hnl2, hcs]; omega) (fun u hu => h1 u (List.mem_of_mem_drop hu))
    rw [List.getElem?_drop] at hj
    have e : (⟨g, i, none⟩ : Addr).add j = (⟨g, 0, none⟩ : Addr).add (i + j) := by
      have h0 : ∀ o j, (⟨g, o, none⟩ : Addr).add j = ⟨g, o + j, none⟩ := fun o j => by unfold Addr.add; split <;> simp_all
      rw [h0, h0, Nat.zero_add]
    rw [e]
    exact hc1 _ _ hj
  have hO1 : ∀ nq, Only (fun k => k = g) w ((w.drewN nq).setRow g r1) := fun nq => only_setRow ((Only.refl _ w).drewN nq) _ _ (.inl rfl)
  have hb1 : ∀ nq, ((w.drewN nq).setRow g r1).heap[g]? = some (.cells r1 3 (0, 0)) := fun nq => setRow_heap _ _ _ _ _ _ (show (w.drewN nq).heap[g]? = _ from hg)
  have hcp2 : ∀ nq, (Builtin.copy_ #[22, 22] 3 #[.slice (some ⟨g, i, none⟩) (n + 1 - i) (cap - i), .slice (some ⟨vb, 0, none⟩) 1 1]).run Try.prog ((w.drewN nq).setRow g r1) = .ok (.int .i64 1) (((w.drewN nq).setRow g r1).setRow g r2) := fun nq => by
    rw [hr2]
    exact run_copyK (P := Try.prog) _ 22 22 3 3 i0 g (i) (n + 1 - i) (cap - i) ⟨vb, 0, none⟩ 1 1 1 r1 3 new Try.underlying22 hi0 (hb1 nq) (Nat.min_eq_left (show 1 ≤ n + 1 - i by omega)) (by rw [hnl, hz1])
      (fun j u hj => (hO1 nq).cell (liesI hnb j u hj) (by rw [addbI]; exact hne)) (by rw [hnl, hr1s]; omega) hn1
  have HR2 := Lib.hid hr2
  have HR1 := Lib.hid hr1
  have HO1 := Lib.hid hO1
  have HB1 := Lib.hid hb1
  have HL := Lib.hid hl
  have HTK := Lib.hid htk
  have HG := Lib.hid hg
  clear hr1 hr2 hb1 hO1 hl htk hg hnb h hc1
  go_enter Try.func48, Try.ntmps48
  go_wp2
  refine wp_region_mixed [0, 1, 2, 5, 6] [3, 4, 7] 8 [] (by kernel_rfl) (by kernel_rfl) (fun _ _ _ _ h => h) ?_
  simp only [pick, consO, List.getElem?_toArray, List.getElem?_cons_succ, List.getElem?_cons_zero, movesOf, moveOf]
  conv => arg 6; simp [Act.put, Act.eval]
  repeat (go_big_quiet_step (fail))
  refine wpQuiet_nil ?_
  rintro _ ⟨nq, rfl⟩
  go_wp2
  go_ret
  refine ⟨rfl, ⟨?_, .inr ⟨g, cap, r2, rfl, Nat.zero_le _, setRow_heap _ _ _ _ _ _ (HB1.out nq), hc, by unfold maxLen; omega, ?_, ?_⟩⟩, only_setRow (HO1.out nq) _ _ (.inl rfl)⟩
  · rw [List.length_append, List.length_append, List.length_take, List.length_drop, hnl, HL.out]
    omega
  · rw [HR2.out]
    simp only [List.size_toArray, List.length_append, List.length_take, List.length_drop, Array.length_toList, hr1s, hnl]
    omega
  · have := shift_listI (o := i * 1) (k := 1) (n := n * 1) (new := new) (cells := cells) (r1 := r1.toList) (r2 := r2.toList) (cur := cur.toList) hnl HTK.out HL.out (by omega) (by rw [HR1.out]; simp) (by rw [HR2.out]; simp [hnl]) (by rw [Array.length_toList, hcs]; omega)
    rw [← this]
    congr 1
    

/-- slices.Insert of one element. -/
theorem insI (v : Value) (n i : Nat) (cells : List Value) (w : World) (h : w.ownsRow 0 3 1 v n cells) (hn : n ≤ 1000) (hi : i ≤ n) (vb : Nat) (new : List Value) (hnl : new.length = 1)
    (hnb : w.heap[vb]? = some (.cells new.toArray 3 (0, 0))) (hne : v.ownBlock ≠ some vb) (hn1 : ∀ u ∈ new, u.oneCell' = true) (h1 : ∀ u ∈ cells, u.oneCell' = true) :
    Calls Try.prog 48 #[v, .int .i64 i, .slice (some ⟨vb, 0, none⟩) 1 1] w fun e w' => ∃ v', e = .returned v' ∧ w'.ownsRow 0 3 1 v' (n + 1) (cells.take (i * 1) ++ new ++ cells.drop (i * 1)) ∧ Only (fun k => v.ownBlock = some k) w w' ∧
      (v'.ownBlock = v.ownBlock ∨ ∀ k, v'.ownBlock = some k → w.heap.size ≤ k) := by
  have wk : ∀ {w' : World} {v' : Value} {m : Nat} {xs : List Value}, w'.ownsRow w.heap.size 3 1 v' m xs → w'.ownsRow 0 3 1 v' m xs ∧ ∀ k, v'.ownBlock = some k → w.heap.size ≤ k := fun hw =>
    ⟨⟨hw.1, hw.2.imp id (fun ⟨g, cap, cur, a, b, c⟩ => ⟨g, cap, cur, a, Nat.zero_le _, c⟩)⟩, fun k hk => (hw.lt k hk).1⟩
  have hl := h.1
  have hend : i = n → cells.take (i * 1) = cells ∧ cells.drop (i * 1) = [] := fun e => by
    rw [e, ← hl]; exact ⟨List.take_length, List.drop_length⟩
  rcases h.2 with ⟨rfl, rfl⟩ | ⟨g, cap, cur, rfl, hb, hgg, hnc, hc, hs, ht⟩
  · obtain rfl : i = 0 := by omega
    have hx : cells = [] := List.eq_nil_of_length_eq_zero (by simpa using hl)
    subst hx
    refine (ins_nilI w vb new hnl hnb hn1).mono ?_
    rintro e w' ⟨v', rfl, hw, ho⟩
    obtain ⟨a, b⟩ := wk hw
    exact ⟨v', rfl, by simpa using a, ho.mono (fun _ h => h.elim), .inr b⟩
  · have hvb : vb ≠ g := fun e => hne (by rw [e]; rfl)
    by_cases hin : i = n
    · obtain ⟨e1, e2⟩ := hend hin
      rw [e1, e2, List.append_nil]
      subst hin
      by_cases hr : i + 1 ≤ cap
      · refine (ins_roomI g i cap cells w h hn hr vb new hnl hnb hn1).mono ?_
        rintro e w' ⟨rfl, hw, ho⟩
        exact ⟨_, rfl, hw, ho.mono (fun k hk => by rw [hk]; rfl), .inl rfl⟩
      · obtain rfl : cap = i := by omega
        refine (ins_growI g cap cells w h hn vb new hnl hnb).mono ?_
        rintro e w' ⟨v', rfl, hw, ho⟩
        obtain ⟨a, b⟩ := wk hw
        exact ⟨v', rfl, a, ho.mono (fun _ h => h.elim), .inr b⟩
    · by_cases hr : n + 1 ≤ cap
      · refine (ins_shiftI g n cap i cells w h hn (by omega) hr vb new hnl hnb hvb hn1 h1).mono ?_
        rintro e w' ⟨rfl, hw, ho⟩
        exact ⟨_, rfl, hw, ho.mono (fun k hk => by rw [hk]; rfl), .inl rfl⟩
      · refine (ins_overI g n cap i cells w h hn (by omega) (by omega) vb new hnl hnb hn1 h1).mono ?_
        rintro e w' ⟨v', rfl, hw, ho⟩
        obtain ⟨a, b⟩ := wk hw
        obtain rfl : cap = n := by omega
        exact ⟨v', rfl, a, ho.mono (fun _ h => h.elim), .inr b⟩

end Go.Proofs.Ytofachfbphinaaa
