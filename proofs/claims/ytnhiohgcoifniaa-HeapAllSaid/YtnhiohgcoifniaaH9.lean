/- The contract of awake. -/
import Derived.Test.YtnhiohgcoifniaaH8
namespace Go.Proofs.Ytnhiohgcoifniaa
open Go.RowKit Go.Gav Go.BigFrame
open Go.Maps (Tidy IsMap)

theorem one64 : I64 1 := small64 1 (by decide)
theorem two64 : I64 2 := small64 2 (by decide)

set_option maxRecDepth 100000 in
set_option maxHeartbeats 2000000 in
theorem awake_true (w : World) : Calls Try.prog 8 #[] w fun e w' => e = .returned (.bool true) ∧ Only (fun _ => False) w w' := by
  go_enter Try.func8, Try.ntmps8
  go_wp2_with (fail)
  refine (h_new _).mono ?_
  rintro e w1 ⟨hb, l0, mb, rfl, h1, b1, b2, b3, o1⟩
  have H1 := Lib.hid h1
  have O1 := Lib.hid o1
  have HB := Lib.hid (And.intro b1 (And.intro b2 b3))
  clear h1 o1 b1 b2 b3
  go_wp2_with (fail)
  refine (h_set hb l0 mb [] 1 3 one64 _ H1.out (by decide)).mono ?_
  rintro e w2 ⟨rfl, l1, h2, g2, o2⟩
  have H2 : Hid (HRep w2 hb l1 mb [(1, 3)]) := h2
  have O2 : Hid (Only (fun _ => False) w w2) := O1.out.trans o2 (fun j hj h => by have := HB.out; omega)
  have L1 : w.heap.size ≤ l1 := by have := HB.out; have := O1.out.size; omega
  clear h2 g2 o2 H1 O1
  go_wp2_with (fail)
  refine (h_set hb l1 mb [(1, 3)] 2 1 two64 _ H2.out (by decide)).mono ?_
  rintro e w3 ⟨rfl, l2, h3, g3, o3⟩
  have H3 : Hid (HRep w3 hb l2 mb [(2, 1), (1, 3)]) := h3
  have O3 : Hid (Only (fun _ => False) w w3) := O2.out.trans o3 (fun j hj h => by have := HB.out; have := L1; omega)
  have L2 : w.heap.size ≤ l2 := by have := L1; have := O2.out.size; omega
  clear h3 g3 o3 H2 O2
  go_wp2_with (fail)
  refine (h_set hb l2 mb [(2, 1), (1, 3)] 1 0 one64 _ H3.out (by decide)).mono ?_
  rintro e w4 ⟨rfl, l3, h4, g4, o4⟩
  have H4 : Hid (HRep w4 hb l3 mb [(1, 0), (2, 1)]) := h4
  have O4 : Hid (Only (fun _ => False) w w4) := O3.out.trans o4 (fun j hj h => by have := HB.out; have := L2; omega)
  have L3 : w.heap.size ≤ l3 := by have := L2; have := O3.out.size; omega
  clear h4 g4 o4 H3 O3
  go_wp2_with (fail)
  refine (h_pop hb l3 mb [(1, 0), (2, 1)] (by intro x hx; simp at hx; rcases hx with rfl | rfl <;> first | exact one64 | exact two64) _ H4.out).mono ?_
  rintro e w5 ⟨rfl, h5, o5⟩
  have H5 : Hid (HRep w5 hb l3 mb [(2, 1)]) := h5
  have O5 : Hid (Only (fun _ => False) w w5) := O4.out.trans o5 (fun j hj h => by have := HB.out; have := L3; omega)
  clear h5 o5 H4 O4
  simp only [show headE [(1, 0), (2, 1)] = (1, 0) from rfl, List.isEmpty_cons, Bool.not_false]
  go_wp2_with (fail)
  refine (h_pop hb l3 mb [(2, 1)] (by intro x hx; simp at hx; subst hx; exact two64) _ (H5.out.only ((Only.refl (fun _ => False) w5).alloc _) id id id)).mono ?_
  rintro e w6 ⟨rfl, h6, o6⟩
  have hlt5 := H5.out.lts
  have kb6 : w6.heap[w5.heap.size]? = some (.cells #[.int .i64 1, .int .i64 0] 40 (0, 0)) := o6.keep (heap_alloc_new w5 _) (fun h => by omega)
  obtain ⟨c0, c1⟩ := two_cells kb6
  have hlt6 := lt_of_block kb6
  have H6 : Hid (HRep w6 hb l3 mb []) := h6
  have O6 : Hid (Only (fun _ => False) w w6) := (O5.out.alloc _).trans o6 (fun j hj h => by have := HB.out; have := L3; omega)
  clear h6 o6 H5 O5 kb6
  simp only [show headE [(2, 1)] = (2, 1) from rfl, List.isEmpty_cons, Bool.not_false]
  go_wp2_with (fail)
  refine (h_len hb l3 mb [] _ (H6.out.only ((Only.refl (fun _ => False) w6).alloc _) id id id)).mono ?_
  rintro e w7 ⟨rfl, rfl⟩
  go_wp2
  go_ret
  exact ⟨rfl, O6.out.alloc _⟩

end Go.Proofs.Ytnhiohgcoifniaa
