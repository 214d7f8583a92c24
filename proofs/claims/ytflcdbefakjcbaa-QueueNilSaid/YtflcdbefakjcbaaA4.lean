/- The walk of the law QueueNil: it returns true. -/
import Derived.Test.YtflcdbefakjcbaaA3
namespace Go.Proofs.Ytflcdbefakjcbaa
open Go.RowKit Go.Gav Go.BigFrame Go.Shelf
attribute [local go_sem] Oper.semAt_some

set_option maxRecDepth 100000 in
set_option maxHeartbeats 1000000 in
theorem nil_walk (x : Int) (w : World) :
    Calls Try.prog 5 #[.int .i64 x] w fun e w' => e = .returned (.bool true) ∧ Only (fun _ => False) w w' := by
  refine callsIn_wide.1 (callsIn_of_wp_marks (F := Fence.wide) (n := 0) Try.func5 rfl trivial ?_)
  simp only [Try.ntmps5, List.size_toArray, List.length_cons, List.length_nil, Nat.reduceAdd, Nat.reduceSub, Array.replicate_succ, Array.replicate_zero, List.push_toArray, List.append_toArray, List.nil_append, List.cons_append]
  refine wpIn_wide.2 ?_
  go_wp2_with (fail)
  refine (awake_true _).mono ?_
  rintro e w1 ⟨rfl, o1⟩
  have O1 := Lib.hid o1
  clear o1
  go_wp2_with (first | (go_at_call 16; refine (pop_nil _).mono ?_; rintro e w' ⟨rfl, rfl⟩) | (go_at_call 19; refine (peek_nil _).mono ?_; rintro e w' ⟨rfl, rfl⟩) | (go_at_call 21; refine (all_call _ _).mono ?_; rintro e w' ⟨rfl, rfl⟩))
  have k1 : ((w'.alloc (Obj.cells #[Value.int IntKind.i64 0] 3)).alloc (Obj.cells #[Value.pointer none] 24)).heap[w'.heap.size]? = some (.cells #[.int .i64 0] 3 (0, 0)) := hp_alloc (heap_alloc_new w' _) _
  have k2 : ((w'.alloc (Obj.cells #[Value.int IntKind.i64 0] 3)).alloc (Obj.cells #[Value.pointer none] 24)).cell? ⟨w'.heap.size + 1, 0, none⟩ = some (.pointer none) := by
    have := heap_alloc_new (w'.alloc (Obj.cells #[Value.int IntKind.i64 0] 3)) (Obj.cells #[Value.pointer none] 24)
    rw [World.size_alloc] at this
    exact cell_of_one this
  have o2 : Only (fun _ => False) w ((w'.alloc (Obj.cells #[Value.int IntKind.i64 0] 3)).alloc (Obj.cells #[Value.pointer none] 24)) := (O1.out.alloc _).alloc _
  have hs1 : ((w'.alloc (Obj.cells #[Value.int IntKind.i64 0] 3)).alloc (Obj.cells #[Value.pointer none] 24)).heap.size = w'.heap.size + 2 := by simp
  generalize (w'.alloc (Obj.cells #[Value.int IntKind.i64 0] 3)).alloc (Obj.cells #[Value.pointer none] 24) = w2 at *
  have HS1 := Lib.hid hs1
  have O2 := Lib.hid o2
  have hww := O1.out.size
  clear hs1 o2 O1
  refine wp_range (gf := 38) (lb := #[.pointer (some ⟨w'.heap.size + 1, 0, none⟩)]) rfl (enters_of Try.func38 (by kernel_rfl) rfl) (all_iter_nil (w'.heap.size + 1) w2 k2) (fun x => rfl) ?_
  intro W0 hW0 hs0
  have hz := HS1.out
  refine ⟨fun i W => W.heap[w'.heap.size]? = some (.cells #[.int .i64 0] 3 (0, 0)) ∧ Only (fun _ => False) w W, fun _ _ => False, ?_, ?_, fun _ _ _ h _ => h, ?_, ?_, fun _ _ _ _ _ h _ => h.elim⟩
  · exact ⟨hW0.keep k1 id, O2.out.trans hW0 (fun _ _ h => h)⟩
  · rintro i W1 W2 ⟨h2, h5⟩ ho
    exact ⟨ho.keep h2 (fun h => by have := h.1; omega), h5.trans ho (fun j hj h => by have := h.1; omega)⟩
  · intro l i hi
    rw [places_length] at hi
    simp at hi
  · rintro D W hD1 hD2 ⟨h2, h5⟩ hK
    have c2 := cell_of_one h2
    have H5 := Lib.hid h5
    have H2 := Lib.hid h2
    have HK := Lib.hid hK
    clear h2 h5 hK k1 k2 hW0 hz
    go_wp2_with (fail)
    refine (awake_true _).mono ?_
    rintro e w3 ⟨rfl, o3⟩
    have c3 := cell_of_one (o3.keep H2.out id)
    have O3 := Lib.hid o3
    clear o3 c2
    go_wp2_with (first | (go_at_call 14; refine (push_nil _ _).mono ?_; rintro e w'' ⟨rfl, rfl⟩) | (go_at_call 15; refine (len_nil _).mono ?_; rintro e w'' ⟨rfl, rfl⟩) | (go_at_call 20; refine (copy_nil _).mono ?_; rintro e w'' ⟨rfl, rfl⟩))
    refine ⟨by simp, .inl ⟨_, _, rfl, run_takeDeferred (O3.out.keep HK.out id), ?_⟩⟩
    have ho : Only (fun k => k = D) w'' (w''.putObj D (.deferred none)) := only_putObj (Only.refl _ _) _ _ (.inl rfl)
    have hz := HS1.out
    exact ⟨_, results_tmp rfl _ _ _, rfl, (H5.out.trans O3.out (fun _ _ h => h)).trans ho (fun j hj h => by omega)⟩

end Go.Proofs.Ytflcdbefakjcbaa
