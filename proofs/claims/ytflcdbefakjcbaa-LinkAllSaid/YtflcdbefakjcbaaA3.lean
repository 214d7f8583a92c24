/- The contract of the queue's Copy. -/
import Derived.Test.YtflcdbefakjcbaaA2
namespace Go.Proofs.Ytflcdbefakjcbaa
open Go.RowKit Go.Gav Go.BigFrame Go.Shelf
attribute [local go_sem] Oper.semAt_some

theorem copy_nil (w : World) : Calls Try.prog 20 #[.pointer none] w fun e w' => e = .returned (.pointer none) ∧ w' = w := by
  go_enter Try.func20, Try.ntmps20
  go_wp2
  go_ret
  exact ⟨rfl, rfl⟩

theorem qrep_new (w : World) (room : Nat) (h1 : 1 ≤ room) (h2 : room ≤ 1048576) :
    QRep (w.alloc (.cells #[.slice none 0 0, .int .i64 0, .int .i64 0, .int .i64 room] 81)) w.heap.size w.heap.size room [] := by
  refine ⟨[], 0, ⟨?_, fun h => by simp at h, fun _ => ⟨rfl, rfl⟩, by simp, by simp, h1, h2⟩, rfl⟩
  simpa [ringV] using heap_alloc_new w _

set_option maxRecDepth 100000 in
set_option maxHeartbeats 1000000 in
theorem copy_at (b rb room : Nat) (xs : List Int) (w : World) (hq : QRep w b rb room xs) :
    Calls Try.prog 20 #[.pointer (some ⟨b, 0, none⟩)] w fun e w' => ∃ cb rc, e = .returned (.pointer (some ⟨cb, 0, none⟩)) ∧ QRep w' cb rc room xs ∧ w.heap.size ≤ cb ∧ w.heap.size ≤ rc ∧ Only (fun _ => False) w w' := by
  have HQ := Lib.hid hq
  have hle := hq.le
  have hlt := hq.lt
  have c3 : w.cell? ⟨b, 3, none⟩ = some (.int .i64 room) := by
    obtain ⟨zs, fr, ha, _⟩ := hq
    exact ha.cells.2.2.2.1
  clear hq
  refine callsIn_wide.1 (callsIn_of_wp_marks (F := Fence.wide) (n := 0) Try.func20 rfl trivial ?_)
  simp only [Try.ntmps20, List.size_toArray, List.length_cons, List.length_nil, Nat.reduceAdd, Nat.reduceSub, Array.replicate_succ, Array.replicate_zero, List.push_toArray, List.append_toArray, List.nil_append, List.cons_append]
  refine wpIn_wide.2 ?_
  go_wp2_with (go_at_call 21; refine (all_call _ _).mono ?_; rintro e w' ⟨rfl, rfl⟩)
  have HW : ∃ w1, w1 = (((w.alloc (Obj.cells #[Value.slice none 0 0, Value.int IntKind.i64 0, Value.int IntKind.i64 0, Value.int IntKind.i64 ↑room] 81)).alloc
      (Obj.cells #[Value.pointer (some { block := w.heap.size, off := 0 })] 24)).alloc (Obj.cells #[Value.pointer (some { block := b, off := 0 })] 24)) := ⟨_, rfl⟩
  obtain ⟨w1, hw1⟩ := HW
  have hs1 : w1.heap.size = w.heap.size + 3 := by rw [hw1]; simp
  have o1 : Only (fun _ => False) w w1 := by rw [hw1]; exact (((Only.refl _ _).alloc _).alloc _).alloc _
  have q1 : QRep w1 w.heap.size w.heap.size room [] := by
    rw [hw1]
    have := qrep_new w room hle.2.1 hle.2.2
    exact this.only (((Only.refl (fun _ => False) _).alloc _).alloc _) id id
  have k1 : w1.heap[w.heap.size + 1]? = some (.cells #[.pointer (some ⟨w.heap.size, 0, none⟩)] 24 (0, 0)) := by
    rw [hw1]
    have := heap_alloc_new (w.alloc (Obj.cells #[Value.slice none 0 0, Value.int IntKind.i64 0, Value.int IntKind.i64 0, Value.int IntKind.i64 ↑room] 81)) (Obj.cells #[Value.pointer (some { block := w.heap.size, off := 0 })] 24)
    rw [World.size_alloc] at this
    exact hp_alloc this _
  have k2 : w1.cell? ⟨w.heap.size + 1 + 1, 0, none⟩ = some (.pointer (some ⟨b, 0, none⟩)) := by
    rw [hw1]
    have := heap_alloc_new ((w.alloc (Obj.cells #[Value.slice none 0 0, Value.int IntKind.i64 0, Value.int IntKind.i64 0, Value.int IntKind.i64 ↑room] 81)).alloc
      (Obj.cells #[Value.pointer (some { block := w.heap.size, off := 0 })] 24)) (Obj.cells #[Value.pointer (some { block := b, off := 0 })] 24)
    rw [World.size_alloc, World.size_alloc] at this
    exact cell_of_one this
  rw [← hw1]
  clear hw1 c3
  have qb := HQ.out.only o1 id id
  have HS1 := Lib.hid hs1
  have O1 := Lib.hid o1
  clear hs1 o1
  refine wp_range (gf := 38) (lb := #[.pointer (some ⟨w.heap.size + 1 + 1, 0, none⟩)]) rfl (enters_of Try.func38 (by kernel_rfl) rfl) (all_iter_any (w.heap.size + 1 + 1) b rb room xs w1 k2 qb) (fun x => rfl) ?_
  intro W0 hW0 hs0
  have hwW : w.heap.size + 5 ≤ W0.heap.size := by have := HS1.out; omega
  refine ⟨fun i W => i ≤ xs.length ∧ ∃ rc, QRep W w.heap.size rc room (xs.take i) ∧ (rc = w.heap.size ∨ W0.heap.size ≤ rc) ∧ W.heap[w.heap.size + 1]? = some (.cells #[.pointer (some ⟨w.heap.size, 0, none⟩)] 24 (0, 0)) ∧ W0.heap.size ≤ W.heap.size ∧ Only (fun _ => False) w W,
    fun _ _ => False, ?_, ?_, fun _ _ _ h _ => h, ?_, ?_, fun _ _ _ _ _ h _ => h.elim⟩
  · exact ⟨Nat.zero_le _, _, by simpa using q1.only hW0 id id, .inl rfl, hW0.keep k1 id, Nat.le_refl _, O1.out.trans hW0 (fun _ _ h => h)⟩
  · rintro i W1 W2 ⟨h1, rc, h2, h3, h4, h5, h6⟩ ho
    have hz := HS1.out
    exact ⟨h1, rc, h2.only ho (fun h => by have := h.1; omega) (fun h => by have := h.1; have := h.2; omega), h3, ho.keep h4 (fun h => by have := h.1; omega), by have := ho.size; omega, h6.trans ho (fun j hj h => by have := h.1; omega)⟩
  · rintro l i hil W ⟨h1, rc, h2, h3, h4, h5, h6⟩
    rw [places_get]
    rw [places_length] at hil
    simp only [encP]
    obtain ⟨xi, hxi⟩ : ∃ xi, xi = xs.getD i 0 := ⟨_, rfl⟩
    rw [← hxi]
    have HXI := Lib.hid hxi
    have H2 := Lib.hid h2
    have H4 := Lib.hid h4
    have H6 := Lib.hid h6
    have H3 := Lib.hid h3
    clear hxi h2 h3 h4 h6 k1 k2 q1 qb
    gi_wp2
    refine ⟨Kept.refl _ _ _, fun W2 ho => ?_⟩
    have hz := HS1.out
    have hszs := ho.size
    have h3 := H3.out
    have h2 := H2.out.only ho (fun h => by have := h.1; omega) (fun h => by have := h.1; have := h.2; omega)
    have h4 := ho.keep H4.out (fun h => by have := h.1; omega)
    have h6 : Only (fun _ => False) w W2 := H6.out.trans ho (fun j hj h => by have := h.1; omega)
    have c2 := cell_of_one h4
    have H2' := Lib.hid h2
    have H4' := Lib.hid h4
    have H6' := Lib.hid h6
    clear h2 h3 h4 h6 H2 H4 H6 ho hz hW0
    gi_wp2_with (fail)
    refine ⟨trivial, rfl, ?_⟩
    refine (CallsIn.inRound l (callsIn_wide.2 (q_push w.heap.size rc room (xs.take i) xi W2 H2'.out (by rw [List.length_take]; omega)))).mono ?_
    rintro e W3 ⟨rfl, rc3, q3, h3, o3⟩
    have Q3 := Lib.hid (And.intro q3 (And.intro h3 o3))
    clear q3 h3 o3
    gi_wp2
    obtain ⟨q3, g3, o3⟩ := Q3.out
    have hz := HS1.out
    have hrc := H3.out
    refine ⟨o3.kept (by omega) (fun k hk => by omega), by omega, rc3, ?_, by omega, o3.keep H4'.out (fun h => by omega), by have := o3.size; omega, H6'.out.trans o3 (fun j hj h => by omega)⟩
    have e : xs.take (i + 1) = xs.take i ++ [xi] := by
      rw [HXI.out, List.take_succ_eq_append_getElem hil, List.getD_eq_getElem?_getD, List.getElem?_eq_getElem hil]; rfl
    rw [e]; exact q3
  · rintro D W hD1 hD2 ⟨h1, rc, h2, h3, h4, h5, h6⟩ hK
    have c2 := cell_of_one h4
    have H2 := Lib.hid h2
    have H3 := Lib.hid h3
    have H6 := Lib.hid h6
    have HK := Lib.hid hK
    have hz := HS1.out
    clear h2 h3 h4 h6 hK k1 k2 q1 qb hW0
    go_wp2
    refine ⟨by simp, .inl ⟨_, _, rfl, run_takeDeferred HK.out, ?_⟩⟩
    have ho : Only (fun k => k = D) W (W.putObj D (.deferred none)) := only_putObj (Only.refl _ _) _ _ (.inl rfl)
    have e := H2.out
    rw [places_length, List.take_length] at e
    have h3 := H3.out
    exact ⟨_, results_tmp rfl _ _ _, w.heap.size, rc, rfl, e.only ho (fun h => by omega) (fun h => by omega), Nat.le_refl _, by omega, H6.out.trans ho (fun j hj h => by omega)⟩

end Go.Proofs.Ytflcdbefakjcbaa
