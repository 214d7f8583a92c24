/- The contracts of the heap's methods at nil, and the walk of the law HeapNil: it returns true. -/
import Derived.Test.YtnhiohgcoifniaaK1
namespace Go.Proofs.Ytnhiohgcoifniaa
open Go.RowKit Go.Gav Go.BigFrame

theorem n_len (w : World) : Calls Try.prog 20 #[.pointer none] w fun e w' => e = .returned (.int .i64 0) ∧ w' = w := by
  go_enter Try.func20, Try.ntmps20
  go_wp2
  go_ret
  exact ⟨rfl, rfl⟩

theorem n_get (k : Int) (w : World) : Calls Try.prog 15 #[.pointer none, .int .i64 k] w fun e w' => e = .returned (.tuple #[.int .i64 0, .bool false]) ∧ w' = w := by
  go_enter Try.func15, Try.ntmps15
  go_wp2
  go_ret2
  exact ⟨rfl, rfl⟩

theorem n_set (k b : Int) (w : World) : Calls Try.prog 11 #[.pointer none, .int .i64 k, .int .i64 b] w fun e w' => e = .returned (.tuple #[]) ∧ w' = w := by
  go_enter Try.func11, Try.ntmps11
  go_wp2
  exact bodyPost_ret (results_none rfl _ _ _) rfl ⟨rfl, rfl⟩

theorem n_del (k : Int) (w : World) : Calls Try.prog 14 #[.pointer none, .int .i64 k] w fun e w' => e = .returned (.bool false) ∧ w' = w := by
  go_enter Try.func14, Try.ntmps14
  go_wp2_with (fail)
  refine (n_get k _).mono ?_
  rintro e w2 ⟨rfl, rfl⟩
  go_wp2
  go_ret
  exact ⟨rfl, rfl⟩

theorem n_new (w : World) : Calls Try.prog 9 #[.nilFunc] w fun e w' => e = .returned (.pointer none) ∧ w' = w := by
  have hen : ∀ w : World, (binOp BinOp.eql 26 Value.nilFunc Value.nilFunc).run Try.prog w = .ok (.bool true) w := fun w => by kernel_rfl
  go_enter Try.func9, Try.ntmps9
  go_wp2
  go_ret
  exact ⟨rfl, rfl⟩

theorem n_min (w : World) : Calls Try.prog 19 #[.pointer none] w fun e w' => e = .returned (.tuple #[.agg #[.int .i64 0, .int .i64 0], .bool false]) ∧ Only (fun _ => False) w w' := by
  go_enter Try.func19, Try.ntmps19
  go_wp2_with (fail)
  refine (n_len _).mono ?_
  rintro e w2 ⟨rfl, rfl⟩
  go_wp2
  refine bodyPost_ret (results_row_tmp rfl _ _ w.heap.size 40 _ _ rfl (heap_alloc_new _ _) Try.underlying40 rfl (by kernel_rfl)) rfl ?_
  exact ⟨rfl, (Only.refl _ _).alloc _⟩

theorem n_pop (w : World) : Calls Try.prog 17 #[.pointer none] w fun e w' => e = .returned (.tuple #[.agg #[.int .i64 0, .int .i64 0], .bool false]) ∧ Only (fun _ => False) w w' := by
  go_enter Try.func17, Try.ntmps17
  go_wp2_with (fail)
  refine (n_min _).mono ?_
  rintro e w2 ⟨rfl, o2⟩
  have kb : w2.heap[w.heap.size]? = some (.cells #[.int .i64 0, .int .i64 0] 40 (0, 0)) := o2.keep (heap_alloc_new w _) id
  obtain ⟨c0, c1⟩ := two_cells kb
  have f0 : w2.frozen? ⟨w.heap.size, 0, none⟩ = false := free_of_row kb
  have f1 : w2.frozen? ⟨w.heap.size, 1, none⟩ = false := free_of_row kb
  have KB := Lib.hid kb
  have hlt := lt_of_block kb
  have O2 := Lib.hid (((Only.refl (fun _ => False) w).alloc (.cells #[.int .i64 0, .int .i64 0] 40)).trans o2 (fun _ _ h => h))
  clear kb o2
  go_wp2_with (fail)
  have k3 := hp_alloc (hp_same (j := 1) (hp_same (j := 0) KB.out (.int .i64 0)) (.int .i64 0)) (.cells #[.int .i64 0, .int .i64 0] 40)
  have o3 : Only (fun _ => False) w (((w2.setCell ⟨w.heap.size, 0, none⟩ (.int .i64 0)).setCell ⟨w.heap.size, 1, none⟩ (.int .i64 0)).alloc (.cells #[.int .i64 0, .int .i64 0] 40)) :=
    ((O2.out.setCell (p := ⟨w.heap.size, 0, none⟩) (.inr (Nat.le_refl _)) _).setCell (p := ⟨w.heap.size, 1, none⟩) (.inr (Nat.le_refl _)) _).alloc _
  refine bodyPost_ret (results_row_tmp rfl _ _ w.heap.size 40 _ _ rfl k3 Try.underlying40 rfl (by kernel_rfl)) rfl ?_
  exact ⟨rfl, o3⟩

theorem all_call (q : Option Addr) (w : World) :
    Calls Try.prog 25 #[.pointer q] w fun e w' => e = .returned (.func (.func 33) #[] #[.pointer (some ⟨w.heap.size, 0, none⟩)]) ∧ w' = w.alloc (.cells #[.pointer q] 24) := by
  go_enter Try.func25, Try.ntmps25
  go_wp2
  go_ret
  exact ⟨rfl, rfl⟩

theorem all_nil (bx : Nat) (w : World) (hbx : w.cell? ⟨bx, 0, none⟩ = some (.pointer none)) : Iter Try.prog 33 #[.pointer (some ⟨bx, 0, none⟩)] encE [] w := by
  intro l W hW R H
  have hc := hW.cell hbx id
  obtain ⟨J, Jx, h0, _, _, _, h1, _⟩ := H W (Only.refl _ _)
  have HR := Lib.hid (h1 W h0)
  clear H h0 h1
  show Calls Try.prog 33 #[.func (.yield l) #[] #[], .pointer (some ⟨bx, 0, none⟩)] W _
  go_enter Try.func33, Try.ntmps33
  go_wp2
  exact bodyPost_ret (results_none rfl _ _ _) rfl ⟨⟨_, rfl⟩, HR.out⟩

set_option maxRecDepth 100000 in
set_option maxHeartbeats 2000000 in
theorem nil_walk (k b : Int) (w : World) :
    Calls Try.prog 6 #[.int .i64 k, .int .i64 b] w fun e w' => e = .returned (.bool true) ∧ Only (fun _ => False) w w' := by
  go_enter Try.func6, Try.ntmps6
  go_wp2_with (fail)
  refine (n_set k b _).mono ?_
  rintro e w1 ⟨rfl, rfl⟩
  go_wp2_with (fail)
  refine (n_get k _).mono ?_
  rintro e w2 ⟨rfl, rfl⟩
  go_wp2_with (fail)
  refine (n_min _).mono ?_
  rintro e w3 ⟨rfl, o3⟩
  have O3 := Lib.hid o3
  clear o3
  go_wp2_with (fail)
  refine (n_pop _).mono ?_
  rintro e w4 ⟨rfl, o4⟩
  have O4 := Lib.hid ((O3.out.alloc _).trans o4 (fun _ _ h => h))
  clear o4 O3
  go_wp2_with (fail)
  refine (awake_true _).mono ?_
  rintro e w5 ⟨rfl, o5⟩
  have O5 := Lib.hid ((O4.out.alloc _).trans o5 (fun _ _ h => h))
  clear o5 O4
  go_wp2_with (fail)
  refine (n_del k _).mono ?_
  rintro e w6 ⟨rfl, rfl⟩
  go_wp2_with (fail)
  refine (n_len _).mono ?_
  rintro e w7 ⟨rfl, rfl⟩
  go_wp2_with (fail)
  refine (all_call none _).mono ?_
  rintro e w8 ⟨rfl, rfl⟩
  go_wp2_with (fail)
  refine (collect 33 _ [] _ (enters_of Try.func33 (by kernel_rfl) rfl) (all_nil _ _ (cell_of_one (heap_alloc_new _ _))) (Nat.zero_le _)).mono ?_
  rintro e w9 ⟨v, rfl, hv, o9⟩
  have hv2 : v = .slice none 0 0 ∨ ∃ g c, v = .slice (some g) 0 c := by
    rcases hv.2 with ⟨h, _⟩ | ⟨g, c, _, h, _⟩
    · exact .inl h
    · exact .inr ⟨_, c, h⟩
  have O9 := Lib.hid ((O5.out.alloc _).trans o9 (fun _ _ h => h))
  clear o9 O5 hv
  obtain ⟨ao, c, rfl⟩ : ∃ ao c, v = .slice ao 0 c := by
    rcases hv2 with h | ⟨g, c, h⟩
    · exact ⟨_, _, h⟩
    · exact ⟨_, _, h⟩
  go_wp2_with (fail)
  refine (n_new _).mono ?_
  rintro e w10 ⟨rfl, rfl⟩
  go_wp2
  go_ret
  exact ⟨rfl, O9.out⟩

end Go.Proofs.Ytnhiohgcoifniaa
