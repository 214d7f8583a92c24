/- The contract of awake. -/
import Derived.Test.YtofachfbphinaaaC20
namespace Go.Proofs.Ytofachfbphinaaa
open Go.RowKit Go.Gav Go.BigFrame

theorem argM_block {w : World} {S : Nat → Prop} {g : Nat} {l : List (Int × Int)} (hg : w.heap[g]? = some (.cells (flatM l).toArray 49 (0, 0))) (hS : ¬ S g) : ArgM w S (some ⟨g, 0, none⟩) l := by
  intro _
  refine ⟨g, 0, rfl, hS, fun i hi => ?_⟩
  obtain ⟨a, b⟩ := flatM_get l i hi
  constructor
  · rw [Nat.zero_add, cell_of_row w g _ _ _ _ hg]
    simpa using a
  · rw [Nat.zero_add, cell_of_row w g _ _ _ _ hg]
    simpa using b

theorem readsM_block {w : World} {g : Nat} {l : List (Int × Int)} (hg : w.heap[g]? = some (.cells (flatM l).toArray 49 (0, 0))) : ReadsM w (some ⟨g, 0, none⟩) l.length (fun i => l.getD i (0, 0)) := by
  intro _
  refine ⟨g, rfl, fun i hi => ?_⟩
  obtain ⟨a, b⟩ := flatM_get l i hi
  constructor
  · rw [cell_of_row w g _ _ _ _ hg]
    simpa using a
  · rw [cell_of_row w g _ _ _ _ hg]
    simpa using b

theorem rsame_same (xs : List (Int × Int)) (ao ap : Option Addr) (cap cbp : Nat) (w : World) (hx : ReadsM w ao xs.length (fun i => xs.getD i (0, 0))) (hy : ReadsM w ap xs.length (fun i => xs.getD i (0, 0))) (hn : xs.length ≤ 1000) :
    Calls Try.prog 31 #[.slice ao xs.length cap, .slice ap xs.length cbp] w fun e w' => e = .returned (.bool true) ∧ Only (fun _ => False) w w' :=
  (rsame_at xs xs ao ap cap cbp w hx hy hn).mono (fun _ _ h => ⟨by rw [h.1, decide_eq_true rfl], h.2⟩)

set_option maxRecDepth 100000 in
set_option maxHeartbeats 1000000 in
theorem awake_at (w : World) : Calls Try.prog 9 #[] w fun e w' => e = .returned (.bool true) ∧ Only (fun _ => False) w w' := by
  have hA := (Only.refl (fun _ => False) w).alloc (Obj.cells #[Value.int .i64 3, .int .i64 0, .int .i64 1, .int .i64 0] 49)
  have HA := Lib.hid hA
  clear hA
  have hA := (Only.refl (fun _ => False) w).alloc (Obj.cells #[Value.int .i64 3, .int .i64 0, .int .i64 1, .int .i64 0] 49)
  have HA := Lib.hid hA
  clear hA
  go_enter Try.func9, Try.ntmps9
  go_wp2_with (first | (go_at_call 21; refine (newM [(3, 0), (1, 0)] _ 2 _ (argM_block (heap_alloc_new _ _) id) (by decide)).mono ?_; rintro _ w1 ⟨v1, rfl, hb1, o1, hv1⟩))
  have hb1' : BagM w1 (w.heap.size + 1) v1 [(1, 0), (3, 0)] := by simpa [insBM] using hb1
  have O1 := Lib.hid (HA.out.trans o1 (fun _ _ h => h))
  have HB := Lib.hid hb1'
  have hn1 : ¬ (w1.heap.size = w.heap.size + 1 ∨ v1.ownBlock = some w1.heap.size) := by
    have h1 := lt_of_block hb1'.head
    intro h
    rcases h with h | h
    · omega
    · have := (hb1'.row.lt _ h).2; omega
  have HV := Lib.hid (show ∀ k, v1.ownBlock = some k → w.heap.size < k from fun k hk => by have := hv1 k hk; simp at this; omega)
  have HN := Lib.hid hn1
  clear hb1 o1 hv1 hb1' hn1
  go_wp2_with (first | (go_at_call 23; refine (putM (w.heap.size + 1) v1 [(1, 0), (3, 0)] [(2, 0), (1, 5)] _ 2 _ (HB.out.only ((Only.refl (fun _ => False) w1).alloc _) id (fun _ _ => id)) (argM_block (heap_alloc_new _ _) HN.out) (by decide)).mono ?_; rintro _ w2 ⟨v2, rfl, hb2, o2, hv2⟩))
  have hb2' : BagM w2 (w.heap.size + 1) v2 [(1, 0), (1, 5), (2, 0), (3, 0)] := by simpa [insBM] using hb2
  have O2 := Lib.hid (show Only (fun _ => False) w w2 from by
    have h := (O1.out.alloc (Obj.cells #[Value.int .i64 2, .int .i64 0, .int .i64 1, .int .i64 5] 49)).trans (S' := fun k => k = w.heap.size + 1 ∨ v1.ownBlock = some k) (S := fun _ => False) o2 (fun j hj h => by
      rcases h with h | h
      · omega
      · have := HV.out j h; omega)
    exact h)
  have HB2 := Lib.hid hb2'
  clear hb2 o2 hv2 hb2' HB HN HV
  go_wp2_with (first | (go_at_call 32; refine (list_at (w.heap.size + 1) v2 _ _ HB2.out (by decide)).mono ?_; rintro _ w3 ⟨v3, rfl, hr3, o3⟩; obtain ⟨ao3, cap3, rfl, hrd3, ho3⟩ := readsM_row (row_base (Nat.zero_le _) hr3)) | (go_at_call 31; refine (rsame_same [(1, 0), (1, 5), (2, 0), (3, 0)] ao3 _ cap3 4 _ (hrd3.only ((Only.refl (fun _ => False) w3).alloc _) (fun _ _ => id)) (readsM_block (heap_alloc_new _ _)) (by decide)).mono ?_; rintro _ w4 ⟨rfl, o4⟩) | (go_at_call 34; refine (lenM (w.heap.size + 1) v2 _ _ (HB2.out.only ((o3.alloc _).trans o4 (fun _ _ h => h)) id (fun _ _ => id))).mono ?_; rintro _ _ ⟨rfl, rfl⟩))
  go_ret
  exact ⟨rfl, (O2.out.trans (o3.alloc _) (fun _ _ h => h)).trans o4 (fun _ _ h => h)⟩

end Go.Proofs.Ytofachfbphinaaa
