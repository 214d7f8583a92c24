/- The walk of the law LinkNil: it returns true. -/
import Derived.Test.YtflcdbefakjcbaaO5
namespace Go.Proofs.Ytflcdbefakjcbaa
open Go.RowKit Go.Gav Go.BigFrame Go.Shelf
attribute [local go_sem] Oper.semAt_some

set_option maxRecDepth 100000 in
set_option maxHeartbeats 1000000 in
theorem lnil_walk (a b v : Int) (w : World) :
    Calls Try.prog 8 #[.int .i64 a, .int .i64 b, .int .i64 v] w fun e w' => e = .returned (.bool true) ∧ Only (fun _ => False) w w' := by
  refine callsIn_wide.1 (callsIn_of_wp_marks (F := Fence.wide) (n := 0) Try.func8 rfl trivial ?_)
  simp only [Try.ntmps8, List.size_toArray, List.length_cons, List.length_nil, Nat.reduceAdd, Nat.reduceSub, Array.replicate_succ, Array.replicate_zero, List.push_toArray, List.append_toArray, List.nil_append, List.cons_append]
  refine wpIn_wide.2 ?_
  go_wp2_with (fail)
  refine (awake_net _).mono ?_
  rintro e w1 ⟨rfl, o1⟩
  have O1 := Lib.hid o1
  clear o1
  go_wp2_with (first | (go_at_call 32; refine (nall_call _ _).mono ?_; rintro e w2 ⟨rfl, hw2⟩) | fail)
  have hww := O1.out.size
  have k1 : (handedW (w1.alloc (.cells #[.int .i64 0] 3)) none 44).heap[w1.heap.size]? = some (.cells #[.int .i64 0] 3 (0, 0)) := (handedW_only _ none 44).keep (heap_alloc_new w1 _) id
  have hcs := (handedW_cells (w1.alloc (.cells #[.int .i64 0] 3)) none 44).1
  have o2 : Only (fun _ => False) w (handedW (w1.alloc (.cells #[.int .i64 0] 3)) none 44) := (O1.out.alloc _).trans (handedW_only _ none 44) (fun _ _ h => h)
  have hs2 : w1.heap.size + 2 ≤ (handedW (w1.alloc (.cells #[.int .i64 0] 3)) none 44).heap.size := by simp [handedW]
  rw [World.size_alloc] at hcs
  rw [← hw2] at k1 hcs o2 hs2 ⊢
  have O2 := Lib.hid o2
  have HS2 := Lib.hid hs2
  clear O1 hw2 o2 hs2
  refine wp_range (gf := 51) (lb := #[.pointer (some ⟨w1.heap.size + 1, 0, none⟩), .pointer (some ⟨w1.heap.size + 1 + 1, 0, none⟩)]) rfl (enters_of Try.func51 (by kernel_rfl) rfl) (handed_nil _ _ w2 hcs) (fun x => rfl) ?_
  intro W0 hW0 hs0
  refine ⟨fun i W => W.heap[w1.heap.size]? = some (.cells #[.int .i64 0] 3 (0, 0)) ∧ Only (fun _ => False) w W, fun _ _ => False, ?_, ?_, fun _ _ _ h _ => h, ?_, ?_, fun _ _ _ _ _ h _ => h.elim⟩
  · exact ⟨hW0.keep k1 id, O2.out.trans hW0 (fun _ _ h => h)⟩
  · rintro i W1 W2 ⟨h2, h5⟩ ho
    have hz := HS2.out
    exact ⟨ho.keep h2 (fun h => by have := h.1; omega), h5.trans ho (fun j hj h => by have := h.1; omega)⟩
  · intro l i hi
    simp at hi
  · rintro D W hD1 hD2 ⟨h2, h5⟩ hK
    have hz := HS2.out
    have HK := Lib.hid hK
    have H2 := Lib.hid h2
    have H5 := Lib.hid h5
    clear h2 h5 hK k1 hcs hW0
    go_wp2_with (first | (go_at_call 30; refine (nheads_call _ _).mono ?_; rintro e w3 ⟨rfl, hw3⟩) | fail)
    have hcs := (handedW_cells W none 42).1
    have o3 := handedW_only W none 42
    have hs3 : W.heap.size + 2 ≤ (handedW W none 42).heap.size := by simp [handedW]
    rw [← hw3] at hcs o3 hs3 ⊢
    have hsW := H5.out.size
    have HK3 := Lib.hid (o3.keep HK.out id)
    have H23 := Lib.hid (o3.keep H2.out id)
    have H53 := Lib.hid (H5.out.trans o3 (fun _ _ h => h))
    have hDW : D < W.heap.size := lt_of_block HK.out
    clear HK H2 H5 hw3
    refine wp_range (gf := 51) (lb := #[.pointer (some ⟨W.heap.size, 0, none⟩), .pointer (some ⟨W.heap.size + 1, 0, none⟩)]) rfl (enters_of Try.func51 (by kernel_rfl) rfl) (handed_nil _ _ w3 hcs) (fun x => rfl) ?_
    intro W3 hW3 hs3'
    refine ⟨fun i W' => W'.heap[w1.heap.size]? = some (.cells #[.int .i64 0] 3 (0, 0)) ∧ W'.heap[D]? = some (.deferred (some [])) ∧ Only (fun _ => False) w W', fun _ _ => False, ?_, ?_, fun _ _ _ h _ => h, ?_, ?_, fun _ _ _ _ _ h _ => h.elim⟩
    · exact ⟨hW3.keep H23.out id, hW3.keep HK3.out id, H53.out.trans hW3 (fun _ _ h => h)⟩
    · rintro i W1 W2 ⟨h2, hk, h5⟩ ho
      exact ⟨ho.keep h2 (fun h => by have := h.1; omega), ho.keep hk (fun h => by have := h.1; omega), h5.trans ho (fun j hj h => by have := h.1; omega)⟩
    · intro l i hi
      simp at hi
    · rintro D2 W4 hD21 hD22 ⟨h2, hk, h5⟩ hK2
      have H2 := Lib.hid h2
      have HK := Lib.hid hk
      have HK2 := Lib.hid hK2
      have H5 := Lib.hid h5
      clear h2 hk h5 hK2 hcs o3 hW3
      go_wp2_with (first | (go_at_call 31; refine (ntake_nil _ _ _).mono ?_; rintro e w4 ⟨rfl, rfl⟩) | (go_at_call 25; refine (awake_net _).mono ?_; rintro e w5 ⟨rfl, o5⟩; have c5 := cell_of_one (o5.keep H2.out id)) | (go_at_call 27; refine (nsend_nil _ _ _ _).mono ?_; rintro e w4 ⟨rfl, rfl⟩) | (go_at_call 28; refine (nlen_nil _).mono ?_; rintro e w4 ⟨rfl, rfl⟩) | (go_at_call 29; refine (ncopy_nil _).mono ?_; rintro e w4 ⟨rfl, rfl⟩) | fail)
      have hne : D ≠ D2 := by omega
      have hk2 := o5.keep HK2.out id
      have hk1 := o5.keep HK.out id
      refine ⟨by simp, .inl ⟨_, _, rfl, run_takeDeferred hk2, ?_⟩⟩
      have p1 : Only (fun k => k = D2) w4 (w4.putObj D2 (.deferred none)) := only_putObj (Only.refl _ _) _ _ (.inl rfl)
      refine ⟨by simp, .inl ⟨_, _, rfl, run_takeDeferred (p1.keep hk1 hne), ?_⟩⟩
      have p2 : Only (fun k => k = D) (w4.putObj D2 (.deferred none)) ((w4.putObj D2 (.deferred none)).putObj D (.deferred none)) := only_putObj (Only.refl _ _) _ _ (.inl rfl)
      exact ⟨_, results_tmp rfl _ _ _, rfl, ((H5.out.trans o5 (fun _ _ h => h)).trans p1 (fun j hj h => by omega)).trans p2 (fun j hj h => by omega)⟩

end Go.Proofs.Ytflcdbefakjcbaa
