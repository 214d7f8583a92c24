/- The walk of the law BagWhere. -/
import Derived.Test.YtofachfbphinaaaA2
import Derived.Test.YtofachfbphinaaaL3
namespace Go.Proofs.Ytofachfbphinaaa
open Go.RowKit Go.Gav Go.BigFrame Go.Shelf
attribute [local go_sem] Oper.semAt_some

set_option maxRecDepth 100000 in
set_option maxHeartbeats 8000000 in
theorem where_walk (a : Option Addr) (len cap : Nat) (l : List Int) (st : Int) (hst0 : 0 ≤ st) (hst1 : st ≤ 255) (w : World) (hl : IsInts w a len l) (h1 : len ≤ 200) :
    Calls Try.prog 5 #[.slice a len cap, .int .u8 st] w fun e w' => e = .returned (.bool true) ∧ Only (fun _ => False) w w' := by
  have HL := Lib.hid hl
  clear hl
  have hg1 : ¬ ((len : Int) > 200) := by omega
  refine callsIn_wide.1 (callsIn_of_wp_marks (F := Fence.wide) (n := 0) Try.func5 rfl trivial ?_)
  simp only [Try.ntmps5, List.size_toArray, List.length_cons, List.length_nil, Nat.reduceAdd, Nat.reduceSub, Array.replicate_succ, Array.replicate_zero, List.push_toArray, List.append_toArray, List.nil_append, List.cons_append]
  refine wpIn_wide.2 ?_
  go_wp2_with (fail)
  have oA : Only (fun _ => False) w ((w.alloc (Obj.cells #[Value.int IntKind.u8 st] 5)).alloc (Obj.cells #[Value.bool false] 4)) := ((Only.refl _ _).alloc _).alloc _
  refine (awake_at _).mono ?_
  rintro _ w1 ⟨rfl, o1⟩
  have k3 : w1.heap[w.heap.size]? = some (.cells #[.int .u8 st] 5 (0, 0)) := o1.keep (hp_alloc (heap_alloc_new w _) _) id
  have k4 : w1.heap[w.heap.size + 1]? = some (.cells #[.bool false] 4 (0, 0)) := o1.keep (heap_alloc2_new w _ _) id
  have K1 := Lib.hid (And.intro k3 k4)
  have O1 := Lib.hid (oA.trans o1 (fun _ _ h => h))
  have hsz1 : w.heap.size + 2 ≤ w1.heap.size := by have := o1.size; simp at this; omega
  clear o1 oA k3 k4
  go_wp2_with (fail)
  refine (newI_n l a len cap w1 HL.out.1 (HL.out.2.only O1.out (fun _ _ _ h => h)) (by omega)).mono ?_
  rintro _ w2 ⟨v, rfl, hb, o2⟩
  have K2 := Lib.hid (And.intro (o2.keep K1.out.1 id) (o2.keep K1.out.2 id))
  have O2 := Lib.hid (O1.out.trans o2 (fun _ _ h => h))
  have hsz2 : w1.heap.size + 1 ≤ w2.heap.size := by have := lt_of_block hb.head; omega
  obtain ⟨bb, hbb⟩ : ∃ bb, bb = w1.heap.size := ⟨_, rfl⟩
  rw [← hbb] at hb ⊢
  have HB := Lib.hid hb
  have hsz : w.heap.size + 2 ≤ w2.heap.size := by omega
  obtain ⟨xs, hxs⟩ : ∃ xs, xs = sortI l := ⟨_, rfl⟩
  rw [← hxs] at HB
  have hxl : xs.length = len := by rw [hxs, sortI_length, HL.out.1]
  have HXL := Lib.hid hxl
  have HWN := Lib.hid (show (xs.filter evI).length = l.countP evI by rw [← List.countP_eq_length_filter, hxs]; exact (sortI_perm l).countP_eq _)
  have HL2 := Lib.hid (HL.out.2.only O2.out (fun _ _ _ h => h))
  clear hb o2 K1 O1 hsz1 hsz2 hbb hxs hxl
  go_wp2_with (fail)
  go_loopw [6, 7] (fun vk vi wr => ∃ i k : Nat, vk = .int .i64 k ∧ vi = .int .i64 i ∧ i ≤ len ∧ k ≤ i ∧ Hid (k = (l.take i).countP evI) ∧ wr = w2) (fun _ vi _ => len - (intOf vi).toNat)
  case atStart => exact ⟨0, 0, rfl, rfl, Nat.zero_le _, Nat.le_refl _, rfl, rfl⟩
  case round =>
    obtain ⟨i, k, rfl, rfl, hil, hki, HK, rfl⟩ := hrel
    by_cases hlt : i < len
    · obtain ⟨ga, oa, rfl, _, hca⟩ := HL2.out (by have := HL.out.1; omega)
      obtain ⟨li, hli⟩ : ∃ li, li = l.getD i 0 := ⟨_, rfl⟩
      have ci := hca i (by have := HL.out.1; omega)
      rw [← hli] at ci
      have HEV := Lib.hid (hli ▸ ev_snoc l i (by have := HL.out.1; omega))
      clear hca hli
      cases hev : evI li with
      | true =>
        have HE := Lib.hid hev
        clear hev
        go_wp2_with (first | (go_at_call 17; refine (even_is li true _ HE.out).mono ?_; rintro _ _ ⟨rfl, rfl⟩))
        go_roundw
        case rel => exact ⟨i + 1, k + 1, by go_num, by go_num, by omega, by omega, by rw [HK.out, HEV.out, if_pos HE.out]; rfl, trivial⟩
        case measure => simp [intOf]; omega
      | false =>
        have HE := Lib.hid hev
        clear hev
        go_wp2_with (first | (go_at_call 17; refine (even_is li false _ HE.out).mono ?_; rintro _ _ ⟨rfl, rfl⟩))
        go_roundw
        case rel => exact ⟨i + 1, k, rfl, by go_num, by omega, by omega, by rw [HK.out, HEV.out, HE.out]; rfl, trivial⟩
        case measure => simp [intOf]; omega
    · obtain rfl : i = len := by omega
      have hwant : k = (xs.filter evI).length := by rw [HWN.out, HK.out, HL.out.1, List.take_length]
      obtain ⟨m, hm⟩ : ∃ m, m = (xs.filter evI).length := ⟨_, rfl⟩
      rw [← hm] at hwant
      subst hwant
      have HM := Lib.hid hm
      clear hm HWN HK
      go_wp2_with (fail)
      refine (where_call _ 17 _).mono ?_
      rintro _ w3 ⟨rfl, hw3⟩
      have oB : Only (fun _ => False) wr w3 := by rw [hw3]; exact (((Only.refl _ _).alloc _).alloc _).alloc _
      have hs3 : w3.heap.size = wr.heap.size + 3 := by rw [hw3]; simp
      have k5 : w3.heap[wr.heap.size]? = some (.cells #[.int .i64 0] 3 (0, 0)) := by rw [hw3]; exact hp_alloc (hp_alloc (heap_alloc_new wr _) _) _
      have k6 : w3.heap[wr.heap.size + 1]? = some (.cells #[.pointer (some ⟨bb, 0, none⟩)] 25 (0, 0)) := by rw [hw3]; exact hp_alloc (heap_alloc2_new wr _ _) _
      have k7 : w3.heap[wr.heap.size + 1 + 1]? = some (.cells #[.func (.func 17) #[] #[]] 37 (0, 0)) := by
        have h := heap_alloc_new ((wr.alloc (Obj.cells #[Value.int IntKind.i64 0] 3)).alloc (Obj.cells #[Value.pointer (some ⟨bb, 0, none⟩)] 25)) (Obj.cells #[.func (.func 17) #[] #[]] 37)
        simp only [World.size_alloc] at h
        rw [hw3]; exact h
      have k3 := oB.keep K2.out.1 id
      have k4 := oB.keep K2.out.2 id
      have q1 := where_iter (wr.heap.size + 1) (wr.heap.size + 1 + 1) bb v xs w3 (cell_of_one k6) (cell_of_one k7) (HB.out.only oB id (fun _ _ => id)) (by have := HXL.out; omega)
      have HS3 := Lib.hid hs3
      have O3 := Lib.hid (O2.out.trans oB (fun _ _ h => h))
      clear hw3 hs3 oB k6 k7 K2 O2 HB HL2
      go_wp2_with (fail)
      refine wp_rangeS (gf := 41) (lb := #[.pointer (some ⟨wr.heap.size + 1, 0, none⟩), .pointer (some ⟨wr.heap.size + 1 + 1, 0, none⟩)]) rfl (enters_of Try.func41 (by kernel_rfl) rfl) (fun q hq => by have := HS3.out; omega) q1 (fun x => rfl) ?_
      intro W0 hW0 hs0
      have hwW : wr.heap.size + 5 ≤ W0.heap.size := by have := HS3.out; omega
      refine ⟨fun j W => j ≤ k ∧ (j = 0 ∨ (j : Int) < st) ∧ (W.heap[w.heap.size]? = some (.cells #[.int .u8 st] 5 (0, 0)) ∧ W.heap[w.heap.size + 1]? = some (.cells #[.bool false] 4 (0, 0)) ∧ W.heap[wr.heap.size]? = some (.cells #[.int .i64 j] 3 (0, 0))) ∧ W0.heap.size ≤ W.heap.size ∧ Only (fun q => q = wr.heap.size) w3 W,
        fun c W => c = .exit 2 ∧ ∃ j : Nat, j ≤ k ∧ (((j : Int) = st ∧ 1 ≤ st) ∨ (j = 1 ∧ st ≤ 1)) ∧ (W.heap[w.heap.size]? = some (.cells #[.int .u8 st] 5 (0, 0)) ∧ W.heap[w.heap.size + 1]? = some (.cells #[.bool false] 4 (0, 0)) ∧ W.heap[wr.heap.size]? = some (.cells #[.int .i64 j] 3 (0, 0))) ∧ Only (fun q => q = wr.heap.size) w3 W, ?_, ?_, ?_, ?_, ?_, ?_⟩
      · exact ⟨Nat.zero_le _, .inl rfl, ⟨hW0.keep k3 id, hW0.keep k4 id, hW0.keep k5 id⟩, Nat.le_refl _, hW0.mono (fun _ h => h.elim)⟩
      · rintro j W1 W2 ⟨h1, hn, ⟨g3, g4, g5⟩, h4, h5⟩ ho
        have hz := HS3.out
        have hk : ∀ q, q < wr.heap.size + 3 → ¬ Span w3.heap.size W0.heap.size q := fun q hq h => by have := h.1; omega
        exact ⟨h1, hn, ⟨ho.keep g3 (hk _ (by omega)), ho.keep g4 (hk _ (by omega)), ho.keep g5 (hk _ (by omega))⟩, by have := ho.size; omega, h5.trans ho (fun j hj h => by have := h.1; omega)⟩
      · rintro c W1 W2 ⟨h1, j, hj1, hj2, ⟨g3, g4, g5⟩, h5⟩ ho
        have hz := HS3.out
        have hk : ∀ q, q < wr.heap.size + 3 → ¬ Span w3.heap.size W0.heap.size q := fun q hq h => by have := h.1; omega
        exact ⟨h1, j, hj1, hj2, ⟨ho.keep g3 (hk _ (by omega)), ho.keep g4 (hk _ (by omega)), ho.keep g5 (hk _ (by omega))⟩, h5.trans ho (fun j hj h => by have := h.1; omega)⟩
      · rintro ll j hjl Wp W ⟨h1, hn, ⟨g3, g4, g5⟩, h4, h5⟩ hoP
        have hz := HS3.out
        have hk : ∀ q, q < wr.heap.size + 3 → ¬ Span w3.heap.size W0.heap.size q := fun q hq h => by have := h.1; omega
        have hszP := hoP.size
        have hjk : j < k := by rw [HM.out]; exact hjl
        simp only [encX]
        obtain ⟨x, hx⟩ : ∃ x, x = (xs.filter evI)[j] := ⟨_, rfl⟩
        have HE := Lib.hid (show evI x = true by rw [hx]; exact (List.mem_filter.1 (List.getElem_mem hjl)).2)
        rw [← hx]
        have G := Lib.hid (And.intro (hoP.keep g3 (hk _ (by omega))) (And.intro (hoP.keep g4 (hk _ (by omega))) (hoP.keep g5 (hk _ (by omega)))))
        have H5 : Hid (Only (fun q => q = wr.heap.size) w3 W) := h5.trans hoP (fun j hj h => by have := h.1; omega)
        have HN := Lib.hid hn
        clear hx h5 g3 g4 g5 hn k3 k4 k5 q1 hoP hW0
        gi_wp2
        refine ⟨KeptT.refl _ _, fun W2 ho => ?_⟩
        have hszs := ho.size
        have g3 := ho.keep G.out.1 (hk _ (by omega))
        have g4 := ho.keep G.out.2.1 (hk _ (by omega))
        have g5 := ho.keep G.out.2.2 (hk _ (by omega))
        have H52 : Hid (Only (fun q => q = wr.heap.size) w3 W2) := H5.out.trans ho (fun j hj h => by have := h.1; omega)
        have c3 := cell_of_one g3
        have c5 := cell_of_one g5
        have f5 := free_of_one g5
        have c3' : (W2.setCell ⟨wr.heap.size, 0, none⟩ (.int .i64 ((j : Int) + 1))).cell? ⟨w.heap.size, 0, none⟩ = some (.int .u8 st) := hp_setc c3 (by show w.heap.size ≠ wr.heap.size; omega) _
        have GG := Lib.hid (And.intro g3 (And.intro g4 g5))
        have HSZ := Lib.hid (show W0.heap.size ≤ Wp.heap.size ∧ Wp.heap.size ≤ W.heap.size ∧ W.heap.size ≤ W2.heap.size by omega)
        have HSW := Lib.hid (And.intro hsz hwW)
        have hj200 : j < 200 := by
          have := HM.out
          have h2 := List.length_filter_le evI xs
          have h3 := HXL.out
          omega
        clear g3 g4 g5 ho H5 G hszs hk hszP hz
        gi_wp2_with (fail)
        refine ⟨trivial, rfl, ?_⟩
        refine (CallsIn.inRound ll (callsIn_wide.2 (even_is x true W2 HE.out))).mono ?_
        rintro e W5 ⟨rfl, hw5⟩
        rw [hw5]
        clear hw5 W5
        have fin : ∀ W3, W3 = W2.setCell ⟨wr.heap.size, 0, none⟩ (.int .i64 ((j : Int) + 1)) → KeptT (prot (fun q => q = wr.heap.size + 1 + 1) w3.heap.size W0.heap.size Wp.heap.size W.heap.size) W2 W3 ∧
            (W3.heap[w.heap.size]? = some (.cells #[.int .u8 st] 5 (0, 0)) ∧ W3.heap[w.heap.size + 1]? = some (.cells #[.bool false] 4 (0, 0)) ∧ W3.heap[wr.heap.size]? = some (.cells #[.int .i64 (j + 1 : Nat)] 3 (0, 0))) ∧ W0.heap.size ≤ W3.heap.size ∧ Only (fun q => q = wr.heap.size) w3 W3 := by
          rintro W3 rfl
          obtain ⟨g3, g4, g5⟩ := GG.out
          have hz := HS3.out
          have hq := HSW.out
          have hs := HSZ.out
          have ho4 : Only (fun q => q = wr.heap.size) W2 (W2.setCell ⟨wr.heap.size, 0, none⟩ (.int .i64 ((j : Int) + 1))) := Only.setAt (Only.refl _ W2) 0 _
          refine ⟨ho4.keptT (fun q hq => ?_), ⟨ho4.keep g3 (by omega), ho4.keep g4 (by omega), hp_same (j := 0) g5 _⟩, by have := ho4.size; omega, H52.out.trans ho4 (fun j hj h => h)⟩
          rcases hq with hq | hq | hq <;> omega
        have FIN := Lib.hid fin
        clear fin
        by_cases hstop : st ≤ (j : Int) + 1
        · have hj2 : ((((j + 1 : Nat) : Int) = st ∧ 1 ≤ st) ∨ (j + 1 = 1 ∧ st ≤ 1)) := by
            rcases HN.out with h | h
            · by_cases h2 : st ≤ 1
              · exact .inr ⟨by omega, h2⟩
              · omega
            · exact .inl ⟨by omega, by omega⟩
          have HJ2 := Lib.hid hj2
          clear hj2 hsz hwW
          gi_wp2
          obtain ⟨r1, r2, r3, r4⟩ := FIN.out _ rfl
          exact ⟨r1, rfl, j + 1, by omega, HJ2.out, r2, r4⟩
        · have HST := Lib.hid hstop
          clear hsz hwW
          gi_wp2
          obtain ⟨r1, r2, r3, r4⟩ := FIN.out _ rfl
          exact ⟨r1, by omega, .inr (by have := HST.out; omega), r2, r3, r4⟩
      · rintro D W hD1 hD2 ⟨h1, hn, ⟨g3, g4, g5⟩, h4, h5⟩ hK
        rw [← HM.out] at g5
        have c3 := cell_of_one g3
        have c4 := cell_of_one g4
        have f4 := free_of_one g4
        have c5 := cell_of_one g5
        have G4 := Lib.hid g4
        have H5 := Lib.hid h5
        have HK := Lib.hid hK
        have HSW := Lib.hid (And.intro hsz hwW)
        clear h1 hn h4 h5 hK g3 g4 g5 k3 k4 k5 q1 hW0 hsz hwW
        go_wp2_with (fail)
        have e5 := one_setCell (u := .bool true) G4.out
        have ho : Only (fun q => q = w.heap.size + 1) W (W.setCell ⟨w.heap.size + 1, 0, none⟩ (.bool true)) := Only.setAt (Only.refl _ W) 0 _
        have hp : Only (fun q => q = D) (W.setCell ⟨w.heap.size + 1, 0, none⟩ (.bool true)) ((W.setCell ⟨w.heap.size + 1, 0, none⟩ (.bool true)).putObj D (.deferred none)) := only_putObj (Only.refl _ _) _ _ (.inl rfl)
        have hz := HS3.out
        have hq := HSW.out
        refine ⟨by simp, .inl ⟨_, _, rfl, run_takeDeferred (ho.keep HK.out (fun h => by omega)), ?_⟩⟩
        exact ⟨_, results_cell_one rfl _ _ ⟨w.heap.size + 1, 0, none⟩ _ _ rfl (cell_of_one (hp.keep e5 (fun h => by omega))) Try.underlying4 rfl, rfl, (((O3.out.trans H5.out (fun j hj h => by omega)).trans ho (fun j hj h => by omega)).trans hp (fun j hj h => by omega))⟩
      · rintro c D W hD1 hD2 ⟨rfl, j, hj1, hj2, ⟨g3, g4, g5⟩, h5⟩ hK
        have c3 := cell_of_one g3
        have c4 := cell_of_one g4
        have f4 := free_of_one g4
        have c5 := cell_of_one g5
        have G4 := Lib.hid g4
        have H5 := Lib.hid h5
        have HK := Lib.hid hK
        have HSW := Lib.hid (And.intro hsz hwW)
        clear h5 hK g3 g4 g5 k3 k4 k5 q1 hW0 hsz hwW
        by_cases hjk : j = k
        · subst hjk
          clear hj1 hj2
          go_wp2_with (fail)
          have e5 := one_setCell (u := .bool true) G4.out
          have ho : Only (fun q => q = w.heap.size + 1) W (W.setCell ⟨w.heap.size + 1, 0, none⟩ (.bool true)) := Only.setAt (Only.refl _ W) 0 _
          have hp : Only (fun q => q = D) (W.setCell ⟨w.heap.size + 1, 0, none⟩ (.bool true)) ((W.setCell ⟨w.heap.size + 1, 0, none⟩ (.bool true)).putObj D (.deferred none)) := only_putObj (Only.refl _ _) _ _ (.inl rfl)
          have hz := HS3.out
          have hq := HSW.out
          refine ⟨by simp, .inl ⟨_, _, rfl, run_takeDeferred (ho.keep HK.out (fun h => by omega)), ?_⟩⟩
          exact ⟨_, results_cell_one rfl _ _ ⟨w.heap.size + 1, 0, none⟩ _ _ rfl (cell_of_one (hp.keep e5 (fun h => by omega))) Try.underlying4 rfl, rfl, (((O3.out.trans H5.out (fun j hj h => by omega)).trans ho (fun j hj h => by omega)).trans hp (fun j hj h => by omega))⟩
        · have hjk2 : ((j : Int) < (k : Int)) := by omega
          have HJ2 := Lib.hid hj2
          clear hj1 hj2
          go_wp2_with (fail)
          case' inl =>
            have hb : ((j : Int) == (k : Int) || (j : Int) == 1) = true := by
              have h2 := HJ2.out
              have h3 : ((j : Int) == 1) = true := by simp; omega
              rw [h3]; simp
            rw [hb]
          case' inr =>
            have hb : ((j : Int) == (k : Int) || (j : Int) == st) = true := by
              have h2 := HJ2.out
              have h3 : ((j : Int) == st) = true := by simp; omega
              rw [h3]; simp
            rw [hb]
          all_goals
            have e5 := one_setCell (u := .bool true) G4.out
            have ho : Only (fun q => q = w.heap.size + 1) W (W.setCell ⟨w.heap.size + 1, 0, none⟩ (.bool true)) := Only.setAt (Only.refl _ W) 0 _
            have hp : Only (fun q => q = D) (W.setCell ⟨w.heap.size + 1, 0, none⟩ (.bool true)) ((W.setCell ⟨w.heap.size + 1, 0, none⟩ (.bool true)).putObj D (.deferred none)) := only_putObj (Only.refl _ _) _ _ (.inl rfl)
            have hz := HS3.out
            have hq := HSW.out
            refine ⟨by simp, .inl ⟨_, _, rfl, run_takeDeferred (ho.keep HK.out (fun h => by omega)), ?_⟩⟩
            exact ⟨_, results_cell_one rfl _ _ ⟨w.heap.size + 1, 0, none⟩ _ _ rfl (cell_of_one (hp.keep e5 (fun h => by omega))) Try.underlying4 rfl, rfl, (((O3.out.trans H5.out (fun j hj h => by omega)).trans ho (fun j hj h => by omega)).trans hp (fun j hj h => by omega))⟩

end Go.Proofs.Ytofachfbphinaaa
