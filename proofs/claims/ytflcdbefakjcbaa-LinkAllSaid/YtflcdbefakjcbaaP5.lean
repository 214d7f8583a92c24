/- The contract of the iterator over all items of one queue. -/
import Derived.Test.YtflcdbefakjcbaaP3
namespace Go.Proofs.Ytflcdbefakjcbaa
open Go.RowKit Go.Gav Go.BigFrame Go.Shelf
attribute [local go_sem] Oper.semAt_some

set_option maxRecDepth 100000 in
set_option maxHeartbeats 4000000 in
theorem items_iter (bq q rb room : Nat) (xs : List Int) (w : World) (hbq : w.cell? ⟨bq, 0, none⟩ = some (.pointer (some ⟨q, 0, none⟩))) (hq : QRep w q rb room xs) :
    IterS Try.prog 45 #[.pointer (some ⟨bq, 0, none⟩)] encV xs w (fun _ => False) := by
  intro l W hW R H
  have oA : Only (fun _ => False) W (W.alloc (Obj.cells #[.func (.yield l) #[] #[]] 45)) := (Only.refl _ _).alloc _
  have hc := oA.cell (hW.cell hbq id) id
  have HB := Lib.hid ((hq.only hW id id).only oA id id)
  have HH := Lib.hid H
  have OA := Lib.hid oA
  have K1 := Lib.hid (heap_alloc_new W (Obj.cells #[.func (.yield l) #[] #[]] 45))
  clear hbq hq hW H oA
  show Calls Try.prog 45 #[.func (.yield l) #[] #[], .pointer (some ⟨bq, 0, none⟩)] W _
  refine callsIn_wide.1 (callsIn_of_wp_marks (F := Fence.wide) (n := 0) Try.func45 rfl trivial ?_)
  simp only [Try.ntmps45, List.size_toArray, List.length_cons, List.length_nil, Nat.reduceAdd, Nat.reduceSub, Array.replicate_succ, Array.replicate_zero, List.push_toArray, List.append_toArray, List.nil_append, List.cons_append]
  refine wpIn_wide.2 ?_
  go_wp2_with (first | (go_at_call 21; refine (all_call _ _).mono ?_; rintro _ w3 ⟨rfl, hw3⟩; have HW3 := Lib.hid hw3; clear hw3))
  have oB : Only (fun _ => False) (W.alloc (Obj.cells #[.func (.yield l) #[] #[]] 45)) w3 := by rw [HW3.out]; exact (Only.refl _ _).alloc _
  have hs3 : w3.heap.size = W.heap.size + 2 := by rw [HW3.out]; simp
  have k2 : w3.cell? ⟨W.heap.size + 1, 0, none⟩ = some (.pointer (some ⟨q, 0, none⟩)) := by
    have := heap_alloc_new (W.alloc (Obj.cells #[.func (.yield l) #[] #[]] 45)) (Obj.cells #[Value.pointer (some ⟨q, 0, none⟩)] 24)
    rw [World.size_alloc] at this
    rw [HW3.out]; exact cell_of_one this
  have q1 := all_iter_any (W.heap.size + 1) q rb room xs w3 k2 (HB.out.only oB id id)
  have K3 := Lib.hid (oB.keep K1.out id)
  have HS3 := Lib.hid hs3
  have O3 := Lib.hid (OA.out.trans oB (fun _ _ h => h))
  clear oB hs3 k2 hc HB K1 OA HW3
  refine wp_range (gf := 38) (encs := encP) (xs := places xs) (lb := #[.pointer (some ⟨W.heap.size + 1, 0, none⟩)]) rfl (enters_of Try.func38 (by kernel_rfl) rfl) q1 (fun x => rfl) ?_
  intro W0 hW0 hs0
  have hwW : W.heap.size + 4 ≤ W0.heap.size := by have := HS3.out; omega
  obtain ⟨J, Jx, hJ0, hJs, hJxs, hY, hJd, hJxd⟩ := HH.out W0 (O3.out.trans hW0 (fun _ _ h => h))
  have HJs := Lib.hid hJs
  have HJxs := Lib.hid hJxs
  have HY := Lib.hid hY
  have HJd := Lib.hid hJd
  have HJxd := Lib.hid hJxd
  clear hJs hJxs hY hJd hJxd HH
  have hsp : ∀ k, Span w3.heap.size W0.heap.size k → Span W.heap.size W0.heap.size k := fun k hk => ⟨by have := hk.1; have := HS3.out; omega, hk.2⟩
  refine ⟨fun i Wr => J i Wr ∧ Wr.heap[W.heap.size]? = some (.cells #[.func (.yield l) #[] #[]] 45 (0, 0)) ∧ W0.heap.size ≤ Wr.heap.size,
    fun c Wr => c = .ret ∧ Jx Wr, ?_, ?_, ?_, ?_, ?_, ?_⟩
  · exact ⟨hJ0, hW0.keep K3.out id, Nat.le_refl _⟩
  · rintro i W1 W2 ⟨hj, g1, h4⟩ ho
    have hz := HS3.out
    exact ⟨HJs.out _ _ _ hj (ho.mono hsp), ho.keep g1 (fun h => by have := h.1; omega), by have := ho.size; omega⟩
  · rintro c W1 W2 ⟨h1, hj⟩ ho
    exact ⟨h1, HJxs.out _ _ hj (ho.mono hsp)⟩
  · rintro ll i hil Wr ⟨hj, g1, h4⟩
    have hz := HS3.out
    rw [places_get]
    rw [places_length] at hil
    have hxi : xs.getD i 0 = xs[i] := by rw [List.getD_eq_getElem?_getD, List.getElem?_eq_getElem hil]; rfl
    rw [hxi]
    simp only [encP]
    obtain ⟨x, hx⟩ : ∃ x, x = xs[i] := ⟨_, rfl⟩
    rw [← hx]
    have HX := Lib.hid hx
    have HJ := Lib.hid hj
    have G := Lib.hid g1
    clear hx hxi hj g1 q1 hW0 hJ0
    gi_wp2
    refine ⟨Kept.refl _ _ _, fun W2 ho => ?_⟩
    have hszs := ho.size
    have g1 := ho.keep G.out (fun h => by have := h.1; omega)
    have c1 := cell_of_one g1
    have hj2 := HJs.out _ _ _ HJ.out (ho.mono hsp)
    have GG := Lib.hid g1
    have HSZ := Lib.hid (show W0.heap.size ≤ W2.heap.size by omega)
    obtain ⟨fn, tmps, assign, body, hy, hR⟩ := HY.out i hil W2 W2 hj2 (Only.refl _ _)
    rw [← HX.out] at hy
    simp only [encV] at hy
    have HR := Lib.hid hR
    clear g1 ho HJ G hszs hz hsp hj2 hR
    gi_wp2_with (fail)
    refine ⟨rfl, (show RoundIn (Fence.wide.inRound ll) 0 Try.prog l fn tmps assign body W2 _ from HR.out).mono ?_⟩
    rintro e W3 (⟨rfl, hk3, hj3⟩ | ⟨rfl, hk3, hx3⟩)
    · have HK := Lib.hid hk3
      have HJ3 := Lib.hid hj3
      clear hk3 hj3 hy HR c1
      gi_wp2
      have hz := HS3.out
      have hle : W0.heap.size ≤ W3.heap.size := by
        have e := HK.out (W0.heap.size - 1) (.inr (.inl ⟨by omega, by omega⟩))
        have hlt2 : W0.heap.size - 1 < W2.heap.size := by have := HSZ.out; omega
        rw [Array.getElem?_eq_getElem hlt2] at e
        have := (Array.getElem?_eq_some_iff.1 e).1
        omega
      exact ⟨fun k g1 g2 => HK.out k (.inr (.inl ⟨by omega, g2⟩)), HJ3.out, (HK.out _ (.inr (.inl ⟨Nat.le_refl _, by omega⟩))).trans GG.out, hle⟩
    · have HK := Lib.hid hk3
      have HX3 := Lib.hid hx3
      clear hk3 hx3 hy HR c1
      gi_wp2
      have hz := HS3.out
      exact ⟨fun k g1 g2 => HK.out k (.inr (.inl ⟨by omega, g2⟩)), rfl, HX3.out⟩
  · rintro Dm Wr hD1 hD2 ⟨hj, g1, h4⟩ hK
    rw [places_length] at hj
    have hz := HS3.out
    have ho : Only (Span W.heap.size W0.heap.size) Wr (Wr.putObj Dm (.deferred none)) := only_putObj (Only.refl _ _) _ _ (.inl ⟨by omega, hD2⟩)
    have HR := Lib.hid (HJd.out _ (HJs.out _ _ _ hj ho))
    have HKK := Lib.hid hK
    clear hj g1 h4 hK q1 hW0 hJ0 ho
    go_wp2
    refine ⟨by simp, .inl ⟨_, _, rfl, run_takeDeferred HKK.out, ?_⟩⟩
    exact ⟨_, results_none rfl _ _ _, ⟨_, rfl⟩, HR.out⟩
  · rintro c Dm Wr hD1 hD2 ⟨rfl, hj⟩ hK
    have hz := HS3.out
    have ho : Only (Span W.heap.size W0.heap.size) Wr (Wr.putObj Dm (.deferred none)) := only_putObj (Only.refl _ _) _ _ (.inl ⟨by omega, hD2⟩)
    have HR := Lib.hid (HJxd.out _ (HJxs.out _ _ hj ho))
    have HKK := Lib.hid hK
    clear hj hK q1 hW0 hJ0 ho
    go_wp2
    refine ⟨by simp, .inl ⟨_, _, rfl, run_takeDeferred HKK.out, ?_⟩⟩
    exact ⟨_, results_none rfl _ _ _, ⟨_, rfl⟩, HR.out⟩

end Go.Proofs.Ytflcdbefakjcbaa
