/- The walk of the law BagNil. -/
import Derived.Test.YtofachfbphinaaaA1
import Derived.Test.YtofachfbphinaaaL3
namespace Go.Proofs.Ytofachfbphinaaa
open Go.RowKit Go.Gav Go.BigFrame Go.Shelf
attribute [local go_sem] Oper.semAt_some

theorem put_nil (s : Value) (w : World) : Calls Try.prog 35 #[.pointer none, s] w fun e w' => e = .returned (.tuple #[]) ∧ w' = w := by
  go_enter Try.func35, Try.ntmps35
  go_wp2
  exact bodyPost_ret (results_none rfl _ _ _) rfl ⟨rfl, rfl⟩

theorem new_nil (s : Value) (w : World) : Calls Try.prog 10 #[.nilFunc, s] w fun e w' => e = .returned (.pointer none) ∧ w' = w := by
  have hen : ∀ w : World, (binOp BinOp.eql 27 Value.nilFunc Value.nilFunc).run Try.prog w = .ok (.bool true) w := fun w => by kernel_rfl
  go_enter Try.func10, Try.ntmps10
  go_wp2
  go_ret
  exact ⟨rfl, rfl⟩

theorem drop_nil (x : Int) (w : World) : Calls Try.prog 19 #[.pointer none, .int .i64 x] w fun e w' => e = .returned (.bool false) ∧ Only (fun _ => False) w w' := by
  go_enter Try.func19, Try.ntmps19
  go_wp2_with (first | (go_at_call 16; refine (count_nilI x _).mono ?_; rintro _ w1 ⟨rfl, o1⟩))
  go_ret
  exact ⟨rfl, o1⟩

set_option maxRecDepth 100000 in
theorem nil_big (x : Int) (a : Option Addr) (len cap : Nat) (w : World) (h : 200 < len) :
    Calls Try.prog 8 #[.int .i64 x, .slice a len cap] w fun e w' => e = .returned (.bool true) ∧ Only (fun _ => False) w w' := by
  have hg1 : ((len : Int) > 200) := by omega
  go_enter Try.func8, Try.ntmps8
  go_wp2_with (fail)
  refine (awake_at _).mono ?_
  rintro _ w1 ⟨rfl, o1⟩
  have O1 := Lib.hid o1
  clear o1
  go_wp2
  go_ret
  exact ⟨rfl, O1.out⟩

set_option maxRecDepth 100000 in
set_option maxHeartbeats 8000000 in
theorem nil_walk (x : Int) (a : Option Addr) (len cap : Nat) (l : List Int) (w : World) (hl : IsInts w a len l) (h1 : len ≤ 200) :
    Calls Try.prog 8 #[.int .i64 x, .slice a len cap] w fun e w' => e = .returned (.bool true) ∧ Only (fun _ => False) w w' := by
  have HL := Lib.hid hl
  clear hl
  have hg1 : ¬ ((len : Int) > 200) := by omega
  refine callsIn_wide.1 (callsIn_of_wp_marks (F := Fence.wide) (n := 0) Try.func8 rfl trivial ?_)
  simp only [Try.ntmps8, List.size_toArray, List.length_cons, List.length_nil, Nat.reduceAdd, Nat.reduceSub, Array.replicate_succ, Array.replicate_zero, List.push_toArray, List.append_toArray, List.nil_append, List.cons_append]
  refine wpIn_wide.2 ?_
  go_wp2_with (fail)
  refine (awake_at _).mono ?_
  rintro _ w1 ⟨rfl, o1⟩
  have O1 := Lib.hid o1
  clear o1
  go_wp2_with (first | (go_at_call 35; refine (put_nil _ _).mono ?_; rintro _ _ ⟨rfl, rfl⟩) | (go_at_call 20; refine (at_nilI x _).mono ?_; rintro _ w2 ⟨rfl, o2⟩; have O2 := Lib.hid (O1.out.trans o2 (fun _ _ h => h)); clear o2) | (go_at_call 15; refine (all_call none _).mono ?_; rintro _ w3 ⟨rfl, hw3⟩))
  have o3 : Only (fun _ => False) w2 w3 := by rw [hw3]; exact ((Only.refl _ _).alloc _).alloc _
  have k1 : w3.heap[w2.heap.size]? = some (.cells #[.int .i64 0] 3 (0, 0)) := by rw [hw3]; exact hp_alloc (heap_alloc_new w2 _) _
  have k2 : w3.cell? ⟨w2.heap.size + 1, 0, none⟩ = some (.pointer none) := by
    have := heap_alloc_new (w2.alloc (Obj.cells #[Value.int IntKind.i64 0] 3)) (Obj.cells #[Value.pointer none] 25)
    rw [World.size_alloc] at this
    rw [hw3]; exact cell_of_one this
  have hs3 : w3.heap.size = w2.heap.size + 2 := by rw [hw3]; simp
  have HS3 := Lib.hid hs3
  have O3 := Lib.hid (O2.out.trans o3 (fun _ _ h => h))
  have hww := O2.out.size
  have q1 := all_iter_nil (w2.heap.size + 1) w3 k2
  rw [← hw3]
  clear hw3 o3 hs3 O1 O2 k2
  refine wp_range (gf := 38) (lb := #[.pointer (some ⟨w2.heap.size + 1, 0, none⟩)]) rfl (enters_of Try.func38 (by kernel_rfl) rfl) q1 (fun x => rfl) ?_
  intro W0 hW0 hs0
  have hz := HS3.out
  refine ⟨fun i W => W.heap[w2.heap.size]? = some (.cells #[.int .i64 0] 3 (0, 0)) ∧ Only (fun _ => False) w3 W, fun _ _ => False, ?_, ?_, fun _ _ _ h _ => h, ?_, ?_, fun _ _ _ _ _ h _ => h.elim⟩
  · exact ⟨hW0.keep k1 id, hW0⟩
  · rintro i W1 W2 ⟨h2, h5⟩ ho
    exact ⟨ho.keep h2 (fun h => by have := h.1; omega), h5.trans ho (fun j hj h => by have := h.1; omega)⟩
  · intro ll i hi
    rw [places_length] at hi
    simp at hi
  · rintro D W hD1 hD2 ⟨h2, h5⟩ hK
    have H2 := Lib.hid h2
    have HK := Lib.hid hK
    have O4 := Lib.hid (O3.out.trans h5 (fun _ _ h => h))
    clear h2 h5 hK k1 q1 hW0 hz O3
    go_wp2_with (fail)
    refine (newI_n l a len cap W HL.out.1 (HL.out.2.only O4.out (fun _ _ _ h => h)) (by omega)).mono ?_
    rintro _ w5 ⟨v, rfl, hb, o5⟩
    have O5 := Lib.hid o5
    clear hb o5
    go_wp2_with (fail)
    refine (awake_at _).mono ?_
    rintro _ w6 ⟨rfl, o6⟩
    have O6 := Lib.hid (O5.out.trans o6 (fun _ _ h => h))
    have c6 := cell_of_one (O6.out.keep H2.out id)
    clear o6
    go_wp2_with (first | (go_at_call 10; refine (new_nil _ _).mono ?_; rintro _ _ ⟨rfl, rfl⟩) | (go_at_call 14; refine (len_nilI _).mono ?_; rintro _ _ ⟨rfl, rfl⟩) | (go_at_call 16; refine (count_nilI x _).mono ?_; rintro _ w7 ⟨rfl, o7⟩; have c7 := o7.cell c6 id) | (go_at_call 19; refine (drop_nil x _).mono ?_; rintro _ w8 ⟨rfl, o8⟩; have c8 := o8.cell c7 id; have O8 := Lib.hid ((O6.out.trans o7 (fun _ _ h => h)).trans o8 (fun _ _ h => h)); clear o7 o8 c6 c7))
    refine (merge_nil none (some ⟨W.heap.size, 0, none⟩) (.inl rfl) _).mono ?_
    rintro _ w9 ⟨rfl, o9⟩
    go_wp2_with (fail)
    refine (merge_nil (some ⟨W.heap.size, 0, none⟩) none (.inr rfl) _).mono ?_
    rintro _ w10 ⟨rfl, o10⟩
    go_wp2_with (fail)
    refine (same_nn _).mono ?_
    rintro _ w11 ⟨rfl, o11⟩
    go_wp2_with (fail)
    refine (same_nb ⟨W.heap.size, 0, none⟩ _).mono ?_
    rintro _ w12 ⟨rfl, o12⟩
    go_wp2_with (fail)
    refine (same_bn ⟨W.heap.size, 0, none⟩ _).mono ?_
    rintro _ w13 ⟨rfl, o13⟩
    go_wp2_with (fail)
    have OZ := Lib.hid (((((O8.out.trans o9 (fun _ _ h => h)).trans o10 (fun _ _ h => h)).trans o11 (fun _ _ h => h)).trans o12 (fun _ _ h => h)).trans o13 (fun _ _ h => h))
    have hp : Only (fun k => k = D) w13 (w13.putObj D (.deferred none)) := only_putObj (Only.refl _ _) _ _ (.inl rfl)
    have hz := HS3.out
    refine ⟨by simp, .inl ⟨_, _, rfl, run_takeDeferred (OZ.out.keep HK.out id), ?_⟩⟩
    exact ⟨_, results_tmp rfl _ _ _, rfl, (O4.out.trans OZ.out (fun _ _ h => h)).trans hp (fun j hj h => by omega)⟩

end Go.Proofs.Ytofachfbphinaaa
