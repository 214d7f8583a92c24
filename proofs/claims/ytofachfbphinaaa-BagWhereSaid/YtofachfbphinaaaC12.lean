/- The contracts of At, EqualFunc, Same, Merge. -/
import Derived.Test.YtofachfbphinaaaC9
import Derived.Test.YtofachfbphinaaaC10
import Derived.Test.YtofachfbphinaaaC11
namespace Go.Proofs.Ytofachfbphinaaa
open Go.RowKit Go.Gav Go.BigFrame

theorem results_row_tmp {P : Program} {fn : Func} {p u : Tmp} {ty : TypeId} (h : fn.results = #[.cell p ty, .tmp u]) (tmps : Array Value) (w : World) (g : Nat) (t : TypeId) (cs : Array Value) (d : TypeDesc)
    (hp : tmps.getD p undef = .pointer (some ⟨g, 0, none⟩)) (hg : w.heap[g]? = some (.cells cs t (0, 0)))
    (hu : P.underlying ty = some d) (hd : (match d with | .struct _ | .array _ _ => true | _ => false) = true) (hi : (P.info? ty).map (·.size) = some cs.size) :
    (results fn tmps).run P w = .ok (.tuple #[.agg cs, tmps.getD u undef]) w := by
  rw [results_cell_tmp h, hp]
  simp [asAddr, run_loadVar_row w g t ty cs (0, 0) d hg hu hd hi, Result.andThen]

set_option maxRecDepth 100000 in
theorem atM (b : Nat) (v : Value) (xs : List (Int × Int)) (i : Nat) (w : World) (h : BagM w b v xs) (hi : i < xs.length) :
    Calls Try.prog 29 #[.pointer (some ⟨b, 0, none⟩), .int .i64 i] w fun e w' => e = .returned (.tuple #[.agg #[.int .i64 (xs.getD i (0, 0)).1, .int .i64 (xs.getD i (0, 0)).2], .bool true]) ∧ Only (fun _ => False) w w' := by
  obtain ⟨ao, cap, rfl, hr, _⟩ := h.reads
  obtain ⟨g, rfl, hc⟩ := hr (by omega)
  have HA := Lib.hid ((Only.refl (fun _ => False) w).alloc (Obj.cells #[Value.int .i64 0, .int .i64 0] 49))
  have hx0 : _ = some (Value.int .i64 (xs.getD i (0, 0)).1) := HA.out.cell (hc i hi).1 id
  have hx1 : _ = some (Value.int .i64 (xs.getD i (0, 0)).2) := HA.out.cell (hc i hi).2 id
  obtain ⟨x, he⟩ : ∃ x, x = xs.getD i (0, 0) := ⟨_, rfl⟩
  rw [← he] at hx0 hx1 ⊢
  obtain ⟨b0, b1⟩ := two_cells (HA.out.keep h.head id)
  have HH := Lib.hid h
  clear h hr hc he
  have hd1 : ¬ ((i : Int) < 0) := by omega
  have hd2 : ¬ ((i : Int) ≥ (xs.length : Int)) := by omega
  go_enter Try.func29, Try.ntmps29
  go_wp2_with (first | (go_at_call 34; refine (lenM b _ xs _ (HH.out.only HA.out id (fun _ _ => id))).mono ?_; rintro _ _ ⟨rfl, rfl⟩))
  refine bodyPost_ret (results_row_tmp rfl _ _ w.heap.size 49 _ _ rfl (heap_alloc_new _ _) Try.underlying49 rfl (by kernel_rfl)) rfl ?_
  exact ⟨rfl, (Only.refl _ _).alloc _⟩

theorem at_highM (b : Nat) (v : Value) (xs : List (Int × Int)) (i : Nat) (w : World) (h : BagM w b v xs) (hi : xs.length ≤ i) :
    Calls Try.prog 29 #[.pointer (some ⟨b, 0, none⟩), .int .i64 i] w fun e w' => e = .returned (.tuple #[.agg #[.int .i64 0, .int .i64 0], .bool false]) ∧ Only (fun _ => False) w w' := by
  have HA := Lib.hid ((Only.refl (fun _ => False) w).alloc (Obj.cells #[Value.int .i64 0, .int .i64 0] 49))
  have HH := Lib.hid h
  clear h
  have hd1 : ¬ ((i : Int) < 0) := by omega
  have hd2 : ((i : Int) ≥ (xs.length : Int)) := by omega
  go_enter Try.func29, Try.ntmps29
  go_wp2_with (first | (go_at_call 34; refine (lenM b _ xs _ (HH.out.only HA.out id (fun _ _ => id))).mono ?_; rintro _ _ ⟨rfl, rfl⟩))
  refine bodyPost_ret (results_row_tmp rfl _ _ w.heap.size 49 _ _ rfl (hp_alloc (heap_alloc_new _ _) _) Try.underlying49 rfl (by kernel_rfl)) rfl ?_
  exact ⟨rfl, ((Only.refl _ _).alloc _).alloc _⟩

theorem at_negM (p : Option Addr) (i : Int) (w : World) (hi : i < 0) :
    Calls Try.prog 29 #[.pointer p, .int .i64 i] w fun e w' => e = .returned (.tuple #[.agg #[.int .i64 0, .int .i64 0], .bool false]) ∧ Only (fun _ => False) w w' := by
  go_enter Try.func29, Try.ntmps29
  go_wp2
  refine bodyPost_ret (results_row_tmp rfl _ _ w.heap.size 49 _ _ rfl (hp_alloc (heap_alloc_new _ _) _) Try.underlying49 rfl (by kernel_rfl)) rfl ?_
  exact ⟨rfl, ((Only.refl _ _).alloc _).alloc _⟩

theorem at_nilM (i : Int) (w : World) :
    Calls Try.prog 29 #[.pointer none, .int .i64 i] w fun e w' => e = .returned (.tuple #[.agg #[.int .i64 0, .int .i64 0], .bool false]) ∧ Only (fun _ => False) w w' := by
  by_cases hi : i < 0
  · exact at_negM none i w hi
  · have hd2 : i ≥ 0 := by omega
    go_enter Try.func29, Try.ntmps29
    go_wp2_with (first | (go_at_call 34; refine (len_nilM _).mono ?_; rintro _ _ ⟨rfl, rfl⟩))
    refine bodyPost_ret (results_row_tmp rfl _ _ w.heap.size 49 _ _ rfl (hp_alloc (heap_alloc_new _ _) _) Try.underlying49 rfl (by kernel_rfl)) rfl ?_
    exact ⟨rfl, ((Only.refl _ _).alloc _).alloc _⟩

end Go.Proofs.Ytofachfbphinaaa
