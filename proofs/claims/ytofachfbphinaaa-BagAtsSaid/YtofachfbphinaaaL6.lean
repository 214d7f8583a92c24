/- The walk of the law BagAts. -/
import Derived.Test.YtofachfbphinaaaA1
import Derived.Test.YtofachfbphinaaaL3
namespace Go.Proofs.Ytofachfbphinaaa
open Go.RowKit Go.Gav Go.BigFrame Go.Shelf
attribute [local go_sem] Oper.semAt_some

theorem newI_m (l : List Int) (ao : Option Addr) (n cap : Nat) (w : World) (e : n = l.length) (hl : ArgI w (fun _ => False) ao l) (hn : n ≤ 1000) :
    Calls Try.prog 10 #[.func (.func 11) #[] #[], .slice ao n cap] w fun e w' => ∃ v', e = .returned (.pointer (some ⟨w.heap.size, 0, none⟩)) ∧ BagI w' w.heap.size v' (sortI l) ∧ Only (fun _ => False) w w' ∧ ∀ k, v'.ownBlock = some k → w.heap.size < k := by
  subst e
  exact newI l ao cap w hl hn

theorem dropI_length (xs : List Int) (x : Int) : (dropBI xs x).length = if cntI xs x = 0 then xs.length else xs.length - 1 := by
  induction xs with
  | nil => rfl
  | cons y ys ih =>
    have hcons : cntI (y :: ys) x = cntI ys x + if y = x then 1 else 0 := by
      unfold cntI
      rw [List.countP_cons]
      simp
    by_cases he : y = x
    · simp only [dropBI, if_pos he]
      rw [hcons, if_pos he, if_neg (by omega)]
      simp
    · simp only [dropBI, if_neg he]
      rw [hcons, if_neg he, List.length_cons, ih]
      by_cases h0 : cntI ys x = 0
      · rw [if_pos h0, if_pos (by omega)]; rfl
      · rw [if_neg h0, if_neg (by omega)]
        have : 0 < ys.length := by
          cases ys with
          | nil => exact absurd rfl h0
          | cons _ _ => simp
        simp
        omega

set_option maxRecDepth 100000 in
set_option maxHeartbeats 8000000 in
theorem ats_walk (a : Option Addr) (len cap : Nat) (l : List Int) (d : Int) (w : World) (hl : IsInts w a len l) (h1 : len ≤ 200) :
    Calls Try.prog 6 #[.slice a len cap, .int .i64 d] w fun e w' => e = .returned (.bool true) ∧ Only (fun _ => False) w w' := by
  have HL := Lib.hid hl
  clear hl
  have hg1 : ¬ ((len : Int) > 200) := by omega
  refine callsIn_wide.1 (callsIn_of_wp_marks (F := Fence.wide) (n := 0) Try.func6 rfl trivial ?_)
  simp only [Try.ntmps6, List.size_toArray, List.length_cons, List.length_nil, Nat.reduceAdd, Nat.reduceSub, Array.replicate_succ, Array.replicate_zero, List.push_toArray, List.append_toArray, List.nil_append, List.cons_append]
  refine wpIn_wide.2 ?_
  go_wp2_with (fail)
  refine (awake_at _).mono ?_
  rintro _ w1 ⟨rfl, o1⟩
  have K1 := Lib.hid (o1.keep (heap_alloc_new w (Obj.cells #[Value.bool false] 4)) id)
  have O1 := Lib.hid (((Only.refl (fun _ => False) w).alloc (Obj.cells #[Value.bool false] 4)).trans o1 (fun _ _ h => h))
  have hsz1 : w.heap.size + 1 ≤ w1.heap.size := by have := o1.size; simp at this; omega
  clear o1
  go_wp2_with (fail)
  refine (newI_m l a len cap w1 HL.out.1 (HL.out.2.only O1.out (fun _ _ _ h => h)) (by omega)).mono ?_
  rintro _ w2 ⟨v, rfl, hb, o2, hvn⟩
  have hsz2 : w1.heap.size + 1 ≤ w2.heap.size := by have := lt_of_block hb.head; omega
  obtain ⟨bb, hbb⟩ : ∃ bb, bb = w1.heap.size := ⟨_, rfl⟩
  rw [← hbb] at hb hvn ⊢
  have HVN := Lib.hid hvn
  have HVL := Lib.hid (fun k hk => (hb.row.lt k hk).2)
  obtain ⟨xs, hxs⟩ : ∃ xs, xs = sortI l := ⟨_, rfl⟩
  rw [← hxs] at hb
  have hxl : len = xs.length := by rw [hxs, sortI_length, HL.out.1]
  have oC := (Only.refl (fun _ => False) w2).alloc (Obj.cells #[.pointer (some ⟨bb, 0, none⟩)] 25)
  have hc0 := cell_of_one (heap_alloc_new w2 (Obj.cells #[.pointer (some ⟨bb, 0, none⟩)] 25))
  have HB := Lib.hid (hb.only oC id (fun _ _ => id))
  have KC := Lib.hid (heap_alloc_new w2 (Obj.cells #[.pointer (some ⟨bb, 0, none⟩)] 25))
  have K2 := Lib.hid (oC.keep (o2.keep K1.out id) id)
  have O2 := Lib.hid ((O1.out.trans o2 (fun _ _ h => h)).trans oC (fun _ _ h => h))
  have hbl : w.heap.size + 1 ≤ bb ∧ bb < w2.heap.size := by omega
  have HXL := Lib.hid hxl
  clear hb o2 K1 O1 hsz1 hsz2 hbb oC hxs hxl hvn
  go_wp2_with (first | (go_at_call 14; refine (lenI_n bb v xs len _ HB.out HXL.out).mono ?_; rintro _ _ ⟨rfl, rfl⟩))
  refine (dropI bb v xs d _ HB.out (by have := HXL.out; omega)).mono ?_
  rintro _ w4 ⟨v4, rfl, hq⟩
  obtain ⟨ys, hys⟩ : ∃ ys, ys = dropBI xs d := ⟨_, rfl⟩
  rw [← hys] at hq
  have hyl : ys.length = if cntI xs d = 0 then xs.length else xs.length - 1 := by rw [hys, dropI_length]
  have hB4 := hq.1
  have hO4 : Only (fun _ => False) w w4 := O2.out.trans hq.2.1 (fun j hj h => by
    rcases h with h | h
    · omega
    · have := HVN.out j h; omega)
  have hk2 : w4.heap[w.heap.size]? = some (.cells #[.bool false] 4 (0, 0)) := hq.2.1.keep K2.out (fun h => by
    rcases h with h | h
    · omega
    · have := HVN.out _ h; omega)
  have hkc : w4.heap[w2.heap.size]? = some (.cells #[.pointer (some ⟨bb, 0, none⟩)] 25 (0, 0)) := hq.2.1.keep KC.out (fun h => by
    rcases h with h | h
    · omega
    · have := HVL.out _ h; omega)
  have hs4 : w2.heap.size + 1 ≤ w4.heap.size := by have := hq.2.1.size; simp at this; omega
  have HB4 := Lib.hid hB4
  have O4 := Lib.hid hO4
  have K4 := Lib.hid (And.intro hk2 hkc)
  have c4 := cell_of_one hkc
  have HYL := Lib.hid hyl
  obtain ⟨n, hn⟩ : ∃ n, n = ys.length := ⟨_, rfl⟩
  have HN := Lib.hid hn
  have hn200 : n ≤ 200 := by
    have := HXL.out
    rw [hn, hyl]
    split <;> omega
  clear hq hB4 hO4 hk2 hkc hyl hys hn HB KC K2 O2 HVL HVN hc0
  have hw : wrap64 ((len : Int) - 1) = (len : Int) - 1 := by unfold wrap64; omega
  obtain ⟨gone, hgone⟩ : ∃ gone, gone = decide (cntI xs d ≠ 0) := ⟨_, rfl⟩
  have hcase : (gone = false ∧ ((n : Int) == (len : Int) - 1) = false) ∨ (gone = true ∧ ((n : Int) == (len : Int) - 1) = true) := by
    have h2 := HN.out
    rw [HYL.out] at h2
    have h3 := HXL.out
    by_cases hc : cntI xs d = 0
    · rw [if_pos hc] at h2
      exact .inl ⟨by rw [hgone]; simp [hc], by simp; omega⟩
    · rw [if_neg hc] at h2
      have hx0 : 0 < xs.length := by
        cases xs with
        | nil => exact absurd rfl hc
        | cons _ _ => simp
      exact .inr ⟨by rw [hgone]; simp [hc], by simp; omega⟩
  rw [← hgone]
  clear hgone
  rcases hcase with ⟨rfl, he⟩ | ⟨rfl, he⟩
  all_goals
    go_wp2_with (fail)
    refine (lenI_n bb v4 ys n _ HB4.out HN.out).mono ?_
    rintro _ w5 ⟨rfl, hw5⟩
    rw [hw5]
    clear hw5 w5
    go_wp2_with (first | (go_at_call 15; refine (all_call _ _).mono ?_; rintro _ w5 ⟨rfl, hw5⟩; have HW5 := Lib.hid hw5; clear hw5))
    clear he
    have oB : Only (fun _ => False) w4 w5 := by rw [HW5.out]; exact (Only.refl _ _).alloc _
    have hs5 : w5.heap.size = w4.heap.size + 1 := by rw [HW5.out]; simp
    have k7 : w5.heap[w4.heap.size]? = some (.cells #[.pointer (some ⟨bb, 0, none⟩)] 25 (0, 0)) := by rw [HW5.out]; exact heap_alloc_new w4 _
    have hB5 := HB4.out.only oB id (fun _ _ => id)
    have q1 := all_iter w4.heap.size bb v4 ys w5 (cell_of_one k7) hB5 (by have := HN.out; omega)
    have HB5 := Lib.hid hB5
    have K5 := Lib.hid (And.intro (oB.keep K4.out.1 id) (oB.keep K4.out.2 id))
    have HS5 := Lib.hid hs5
    have O5 := Lib.hid (O4.out.trans oB (fun _ _ h => h))
    have HBV := Lib.hid (fun k hk => (HB4.out.row.lt k hk).2)
    have HBB := Lib.hid (lt_of_block HB4.out.head)
    clear oB hs5 k7 hB5 c4
    refine wp_range (gf := 38) (lb := #[.pointer (some ⟨w4.heap.size, 0, none⟩)]) rfl (enters_of Try.func38 (by kernel_rfl) rfl) q1 (fun x => rfl) ?_
    intro W0 hW0 hs0
    have hwW : w4.heap.size + 3 ≤ W0.heap.size := by have := HS5.out; omega
    refine ⟨fun i W => i ≤ ys.length ∧ (W.heap[w.heap.size]? = some (.cells #[.bool false] 4 (0, 0)) ∧ W.heap[w2.heap.size]? = some (.cells #[.pointer (some ⟨bb, 0, none⟩)] 25 (0, 0)) ∧ BagI W bb v4 ys) ∧ W0.heap.size ≤ W.heap.size ∧ Only (fun _ => False) w5 W,
      fun _ _ => False, ?_, ?_, fun _ _ _ h _ => h, ?_, ?_, fun _ _ _ _ _ h _ => h.elim⟩
    · exact ⟨Nat.zero_le _, ⟨hW0.keep K5.out.1 id, hW0.keep K5.out.2 id, HB5.out.only hW0 id (fun _ _ => id)⟩, Nat.le_refl _, hW0⟩
    · rintro i W1 W2 ⟨h1, ⟨g4, g5, g6⟩, h4, h5⟩ ho
      have hz := HS5.out
      have hbv := HBV.out
      have hbb := HBB.out
      have hk : ∀ k, k < w4.heap.size → ¬ Span w5.heap.size W0.heap.size k := fun k hk h => by have := h.1; omega
      exact ⟨h1, ⟨ho.keep g4 (hk _ (by omega)), ho.keep g5 (hk _ (by omega)), g6.only ho (hk _ hbb) (fun k hkk => hk _ (hbv k hkk))⟩, by have := ho.size; omega, h5.trans ho (fun j hj h => by have := h.1; omega)⟩
    · rintro ll i hil W ⟨h1, ⟨g4, g5, g6⟩, h4, h5⟩
      have hz := HS5.out
      have hbv := HBV.out
      have hbb := HBB.out
      have hk : ∀ k, k < w4.heap.size → ¬ Span w5.heap.size W0.heap.size k := fun k hk h => by have := h.1; omega
      rw [places_get]
      rw [places_length] at hil
      simp only [encP]
      have HAT := Lib.hid (fun W b (h : BagI W b v4 ys) => atI b v4 ys i W h hil)
      obtain ⟨xi, hxi⟩ : ∃ xi, xi = ys.getD i 0 := ⟨_, rfl⟩
      rw [← hxi] at HAT ⊢
      have G := Lib.hid (And.intro g4 (And.intro g5 g6))
      have H5 := Lib.hid h5
      clear hxi h5 g4 g5 g6 q1
      gi_wp2
      refine ⟨Kept.refl _ _ _, fun W2 ho => ?_⟩
      have hszs := ho.size
      have g4 := ho.keep G.out.1 (hk _ (by omega))
      have g5 := ho.keep G.out.2.1 (hk _ (by omega))
      have g6 := G.out.2.2.only ho (hk _ hbb) (fun k hkk => hk _ (hbv k hkk))
      have H52 : Hid (Only (fun _ => False) w5 W2) := H5.out.trans ho (fun j hj h => by have := h.1; omega)
      have c5 := cell_of_one g5
      have GG := Lib.hid (And.intro g4 (And.intro g5 g6))
      have HSZ := Lib.hid (show W0.heap.size ≤ W2.heap.size by omega)
      clear g4 g5 g6 ho H5 G hszs hz hk hbv hbb
      gi_wp2_with (fail)
      refine ⟨trivial, rfl, ?_⟩
      refine (CallsIn.inRound ll (callsIn_wide.2 (HAT.out W2 bb GG.out.2.2))).mono ?_
      rintro e W3 ⟨rfl, o3⟩
      have O3 := Lib.hid o3
      clear o3 c5
      gi_wp2
      obtain ⟨g4, g5, g6⟩ := GG.out
      have hbv := HBV.out
      have hbb := HBB.out
      have hz := HS5.out
      exact ⟨O3.out.kept HSZ.out (fun k hk => hk.elim), by omega, ⟨O3.out.keep g4 id, O3.out.keep g5 id, g6.only O3.out id (fun _ _ => id)⟩, Nat.le_trans HSZ.out O3.out.size, H52.out.trans O3.out (fun _ _ h => h)⟩
    · rintro D W hD1 hD2 ⟨h1, ⟨g4, g5, g6⟩, h4, h5⟩ hK
      have G4 := Lib.hid g4
      have G5 := Lib.hid g5
      have HBW := Lib.hid g6
      have HK := Lib.hid hK
      have OW := Lib.hid (O5.out.trans h5 (fun _ _ h => h))
      have c5 := cell_of_one g5
      clear h1 h4 h5 hK g4 g5 g6 q1 hW0
      go_wp2_with (fail)
      refine (at_negI (some ⟨bb, 0, none⟩) (-1) W (by decide)).mono ?_
      rintro _ w7 ⟨rfl, o7⟩
      have O7 := Lib.hid o7
      have c7 := o7.cell c5 id
      have HB7 := Lib.hid (HBW.out.only o7 id (fun _ _ => id))
      clear o7 c5
      go_wp2_with (fail)
      go_region_held3 (fun w' => w'.cell? ⟨w2.heap.size, 0, none⟩ = some (.pointer (some ⟨bb, 0, none⟩))) (first | exact c7 | exact o8.cell c7 id) (first | (go_at_call 20; refine (at_highI bb v4 ys n _ (HB7.out.only (show Only (fun _ => False) w7 (w7.drewN 1) from (Only.refl _ _).drewN 1) id (fun _ _ => id)) (by have := HN.out; omega)).mono ?_; rintro _ w8 ⟨rfl, o8⟩) | (go_at_call 14; refine (lenI_n bb v4 ys n _ (HB7.out.only (show Only (fun _ => False) w7 (w7.drewN 1) from (Only.refl _ _).drewN 1) id (fun _ _ => id)) HN.out).mono ?_; rintro _ _ ⟨rfl, rfl⟩))
      have O8 := Lib.hid ((O7.out.drewN 1).trans o8 (fun _ _ h => h))
      have k4 := O8.out.keep G4.out id
      have f4 := free_of_one k4
      have c4 := cell_of_one k4
      have K8 := Lib.hid k4
      have HKD := Lib.hid (O8.out.keep HK.out id)
      clear o8 c7 k4
      go_wp2_with (fail)
      have e5 := one_setCell (u := .bool true) K8.out
      have ho : Only (fun k => k = w.heap.size) w8 (w8.setCell ⟨w.heap.size, 0, none⟩ (.bool true)) := Only.setAt (Only.refl _ w8) 0 _
      have hp : Only (fun k => k = D) (w8.setCell ⟨w.heap.size, 0, none⟩ (.bool true)) ((w8.setCell ⟨w.heap.size, 0, none⟩ (.bool true)).putObj D (.deferred none)) := only_putObj (Only.refl _ _) _ _ (.inl rfl)
      have hz := HS5.out
      refine ⟨by simp, .inl ⟨_, _, rfl, run_takeDeferred (ho.keep HKD.out (fun h => by omega)), ?_⟩⟩
      exact ⟨_, results_cell_one rfl _ _ ⟨w.heap.size, 0, none⟩ _ _ rfl (cell_of_one (hp.keep e5 (fun h => by omega))) Try.underlying4 rfl, rfl, (((OW.out.trans O8.out (fun _ _ h => h)).trans ho (fun j hj h => by omega)).trans hp (fun j hj h => by omega))⟩

end Go.Proofs.Ytofachfbphinaaa
