/- The walk of the law BagSorts. -/
import Derived.Test.YtofachfbphinaaaA1
import Derived.Test.YtofachfbphinaaaL3
namespace Go.Proofs.Ytofachfbphinaaa
open Go.RowKit Go.Gav Go.BigFrame Go.Shelf
attribute [local go_sem] Oper.semAt_some

theorem countI_n (b : Nat) (v : Value) (xs : List Int) (x : Int) (k : Nat) (w : World) (h : BagI w b v xs) (hn : xs.length ≤ 1000) (e : cntI xs x = k) :
    Calls Try.prog 16 #[.pointer (some ⟨b, 0, none⟩), .int .i64 x] w fun e w' => e = .returned (.int .i64 k) ∧ Only (fun _ => False) w w' := by
  subst e
  exact countI b v xs x w h hn

theorem count_snoc (l : List Int) (x : Int) (j : Nat) (h : j < l.length) : (l.take (j + 1)).countP (fun y => decide (y = x)) = (l.take j).countP (fun y => decide (y = x)) + if l.getD j 0 = x then 1 else 0 := by
  rw [List.take_succ_eq_append_getElem h, List.countP_append]
  simp [List.getD_eq_getElem?_getD, h, List.countP_cons]

/-- The last one that was gone through. -/
def lastI (xs : List Int) (i : Nat) : Int := if i = 0 then 0 else xs.getD (i - 1) 0
theorem lastI_succ (xs : List Int) (i : Nat) : lastI xs (i + 1) = xs.getD i 0 := by simp [lastI]

set_option maxRecDepth 100000 in
set_option maxHeartbeats 8000000 in
theorem sorts_walk (a : Option Addr) (len cap : Nat) (l : List Int) (w : World) (hl : IsInts w a len l) (h1 : len ≤ 200) :
    Calls Try.prog 4 #[.slice a len cap] w fun e w' => e = .returned (.bool true) ∧ Only (fun _ => False) w w' := by
  have HL := Lib.hid hl
  clear hl
  have hg1 : ¬ ((len : Int) > 200) := by omega
  refine callsIn_wide.1 (callsIn_of_wp_marks (F := Fence.wide) (n := 0) Try.func4 rfl trivial ?_)
  simp only [Try.ntmps4, List.size_toArray, List.length_cons, List.length_nil, Nat.reduceAdd, Nat.reduceSub, Array.replicate_succ, Array.replicate_zero, List.push_toArray, List.append_toArray, List.nil_append, List.cons_append]
  refine wpIn_wide.2 ?_
  go_wp2_with (fail)
  refine (awake_at _).mono ?_
  rintro _ w1 ⟨rfl, o1⟩
  have K1 := Lib.hid (o1.keep (heap_alloc_new w (Obj.cells #[Value.bool false] 4)) id)
  have O1 := Lib.hid (((Only.refl (fun _ => False) w).alloc (Obj.cells #[Value.bool false] 4)).trans o1 (fun _ _ h => h))
  have hsz1 : w.heap.size + 1 ≤ w1.heap.size := by have := o1.size; simp at this; omega
  clear o1
  go_wp2_with (fail)
  refine (newI_n l a len cap w1 HL.out.1 (HL.out.2.only O1.out (fun _ _ _ h => h)) (by omega)).mono ?_
  rintro _ w2 ⟨v, rfl, hb, o2⟩
  have K2 := Lib.hid (o2.keep K1.out id)
  have O2 := Lib.hid (O1.out.trans o2 (fun _ _ h => h))
  have hsz2 : w1.heap.size + 1 ≤ w2.heap.size := by have := lt_of_block hb.head; omega
  obtain ⟨bb, hbb⟩ : ∃ bb, bb = w1.heap.size := ⟨_, rfl⟩
  rw [← hbb] at hb ⊢
  have HB := Lib.hid hb
  have HVL := Lib.hid (fun k hk => (hb.row.lt k hk).2)
  have hbl : w.heap.size + 1 ≤ bb ∧ bb < w2.heap.size := by omega
  clear hb o2 K1 O1 hsz1 hsz2 hbb
  obtain ⟨xs, hxs⟩ : ∃ xs, xs = sortI l := ⟨_, rfl⟩
  rw [← hxs] at HB
  have hxl : xs.length = len := by rw [hxs, sortI_length, HL.out.1]
  have HUP := Lib.hid (show UpI xs by rw [hxs]; exact sortI_up l)
  have HCNT := Lib.hid (show ∀ x, cntI xs x = l.countP (fun y => decide (y = x)) from fun x => by rw [hxs]; exact (sortI_perm l).countP_eq _)
  have HXL := Lib.hid hxl
  clear hxs hxl
  go_wp2_with (fail)
  refine (all_call _ _).mono ?_
  rintro _ w3 ⟨rfl, hw3⟩
  have oB : Only (fun _ => False) w2 w3 := by rw [hw3]; exact (((Only.refl _ _).alloc _).alloc _).alloc _
  have hs3 : w3.heap.size = w2.heap.size + 3 := by rw [hw3]; simp
  have k5 : w3.heap[w2.heap.size]? = some (.cells #[.int .i64 0] 3 (0, 0)) := by
    rw [hw3]; exact hp_alloc (hp_alloc (heap_alloc_new w2 _) _) _
  have k6 : w3.heap[w2.heap.size + 1]? = some (.cells #[.int .i64 0] 3 (0, 0)) := by
    rw [hw3]; exact hp_alloc (heap_alloc2_new w2 _ _) _
  have k7 : w3.heap[w2.heap.size + 2]? = some (.cells #[.pointer (some ⟨bb, 0, none⟩)] 25 (0, 0)) := by
    have h := heap_alloc_new ((w2.alloc (Obj.cells #[Value.int IntKind.i64 0] 3)).alloc (Obj.cells #[Value.int IntKind.i64 0] 3)) (Obj.cells #[Value.pointer (some ⟨bb, 0, none⟩)] 25)
    simp only [World.size_alloc] at h
    rw [hw3]; exact h
  have k4 := oB.keep K2.out id
  have hbw3 := HB.out.only oB id (fun _ _ => id)
  have q1 := all_iter (w2.heap.size + 2) bb v xs w3 (cell_of_one k7) hbw3 (by have := HXL.out; omega)
  have HB3 := Lib.hid hbw3
  have HS3 := Lib.hid hs3
  have O3 := Lib.hid (O2.out.trans oB (fun _ _ h => h))
  clear hw3 hs3 oB k7 K2 O2 HB hbw3
  go_wp2_with (fail)
  refine wp_range (gf := 38) (lb := #[.pointer (some ⟨w2.heap.size + 2, 0, none⟩)]) rfl (enters_of Try.func38 (by kernel_rfl) rfl) q1 (fun x => rfl) ?_
  intro W0 hW0 hs0
  have hwW : w2.heap.size + 5 ≤ W0.heap.size := by have := HS3.out; omega
  refine ⟨fun i W => i ≤ xs.length ∧ (W.heap[w.heap.size]? = some (.cells #[.bool false] 4 (0, 0)) ∧ W.heap[w2.heap.size]? = some (.cells #[.int .i64 i] 3 (0, 0)) ∧ W.heap[w2.heap.size + 1]? = some (.cells #[.int .i64 (lastI xs i)] 3 (0, 0))) ∧
      W0.heap.size ≤ W.heap.size ∧ Only (fun k => k = w2.heap.size ∨ k = w2.heap.size + 1) w3 W,
    fun _ _ => False, ?_, ?_, fun _ _ _ h _ => h, ?_, ?_, fun _ _ _ _ _ h _ => h.elim⟩
  · exact ⟨Nat.zero_le _, ⟨hW0.keep k4 id, hW0.keep k5 id, hW0.keep k6 id⟩, Nat.le_refl _, hW0.mono (fun _ h => h.elim)⟩
  · rintro i W1 W2 ⟨h1, ⟨g4, g5, g6⟩, h4, h5⟩ ho
    have hz := HS3.out
    have hk : ∀ k, k < w2.heap.size + 3 → ¬ Span w3.heap.size W0.heap.size k := fun k hk h => by have := h.1; omega
    exact ⟨h1, ⟨ho.keep g4 (hk _ (by omega)), ho.keep g5 (hk _ (by omega)), ho.keep g6 (hk _ (by omega))⟩, by have := ho.size; omega, h5.trans ho (fun j hj h => by have := h.1; omega)⟩
  · rintro ll i hil W ⟨h1, ⟨g4, g5, g6⟩, h4, h5⟩
    have hz := HS3.out
    have hk : ∀ k, k < w2.heap.size + 3 → ¬ Span w3.heap.size W0.heap.size k := fun k hk h => by have := h.1; omega
    rw [places_get]
    rw [places_length] at hil
    simp only [encP]
    obtain ⟨xi, hxi⟩ : ∃ xi, xi = xs.getD i 0 := ⟨_, rfl⟩
    rw [← hxi]
    have hle : 0 < i → lastI xs i ≤ xi := fun h0 => by
      have := HUP.out.get (i - 1) i (by omega) hil
      rw [hxi]
      unfold lastI
      rw [if_neg (by omega)]
      exact this
    have HXI := Lib.hid (show lastI xs (i + 1) = xi by rw [lastI_succ, hxi])
    have G := Lib.hid (And.intro g4 (And.intro g5 g6))
    have H5 := Lib.hid h5
    have HLE := Lib.hid hle
    obtain ⟨la, hla⟩ : ∃ la, la = lastI xs i := ⟨_, rfl⟩
    rw [← hla] at G HLE
    clear hxi h5 g4 g5 g6 k4 k5 k6 q1 hle hla
    gi_wp2
    refine ⟨Kept.refl _ _ _, fun W2 ho => ?_⟩
    have hszs := ho.size
    have g4 := ho.keep G.out.1 (hk _ (by omega))
    have g5 := ho.keep G.out.2.1 (hk _ (by omega))
    have g6 := ho.keep G.out.2.2 (hk _ (by omega))
    have H52 : Hid (Only (fun k => k = w2.heap.size ∨ k = w2.heap.size + 1) w3 W2) := H5.out.trans ho (fun j hj h => by have := h.1; omega)
    have c5 := cell_of_one g5
    have c6 := cell_of_one g6
    have f5 := free_of_one g5
    have f6 := free_of_one g6
    have GG := Lib.hid (And.intro g4 (And.intro g5 g6))
    have HSZ := Lib.hid (show W0.heap.size ≤ W2.heap.size by omega)
    have hne : w2.heap.size + 1 ≠ w2.heap.size := by omega
    clear g4 g5 g6 ho H5 G hszs
    have hi200 : i < 200 := by have := HXL.out; omega
    have hw : wrap64 ((i : Int) + 1) = (i : Int) + 1 := by unfold wrap64; omega
    have fin : ∀ W3, W3 = (W2.setCell ⟨w2.heap.size + 1, 0, none⟩ (.int .i64 xi)).setCell ⟨w2.heap.size, 0, none⟩ (.int .i64 ((i : Int) + 1)) → Kept w3.heap.size W0.heap.size W2 W3 ∧ (i + 1 ≤ xs.length ∧ (W3.heap[w.heap.size]? = some (.cells #[.bool false] 4 (0, 0)) ∧ W3.heap[w2.heap.size]? = some (.cells #[.int .i64 (i + 1 : Nat)] 3 (0, 0)) ∧ W3.heap[w2.heap.size + 1]? = some (.cells #[.int .i64 (lastI xs (i + 1))] 3 (0, 0))) ∧
        W0.heap.size ≤ W3.heap.size ∧ Only (fun k => k = w2.heap.size ∨ k = w2.heap.size + 1) w3 W3) := by
      rintro W3 rfl
      obtain ⟨g4, g5, g6⟩ := GG.out
      have ho4 : Only (fun k => k = w2.heap.size ∨ k = w2.heap.size + 1) W2 ((W2.setCell ⟨w2.heap.size + 1, 0, none⟩ (.int .i64 xi)).setCell ⟨w2.heap.size, 0, none⟩ (.int .i64 ((i : Int) + 1))) :=
        ((Only.refl _ W2).setCell (p := ⟨w2.heap.size + 1, 0, none⟩) (.inl (.inr rfl)) _).setCell (p := ⟨w2.heap.size, 0, none⟩) (.inl (.inl rfl)) _
      refine ⟨ho4.kept HSZ.out (fun k hk => by omega), by omega, ⟨ho4.keep g4 (by omega), ?_, ?_⟩, Nat.le_trans HSZ.out ho4.size, H52.out.trans ho4 (fun j hj h => h)⟩
      · exact hp_same (j := 0) (hp_other g5 (p := ⟨w2.heap.size + 1, 0, none⟩) (by show w2.heap.size ≠ w2.heap.size + 1; omega) (.int .i64 xi)) (.int .i64 ((i : Int) + 1))
      · rw [HXI.out]
        exact hp_other (hp_same (j := 0) g6 (.int .i64 xi)) (p := ⟨w2.heap.size, 0, none⟩) (by show w2.heap.size + 1 ≠ w2.heap.size; omega) _
    have FIN := Lib.hid fin
    clear fin hz hk hne
    by_cases h0 : i = 0
    · subst h0
      gi_wp2
      exact FIN.out _ rfl
    · have hi0 : ((i : Int) > 0) := by omega
      have hlt : ¬ (xi < la) := by have := HLE.out (by omega); omega
      gi_wp2
      exact FIN.out _ rfl
  · rintro D W hD1 hD2 ⟨h1, ⟨g4, g5, g6⟩, h4, h5⟩ hK
    rw [places_length, HXL.out] at g5
    have hz := HS3.out
    have G4 := Lib.hid g4
    have G5 := Lib.hid g5
    have HK := Lib.hid hK
    have OW := Lib.hid (O3.out.trans h5 (fun j hj h => by omega))
    have HBW := Lib.hid (HB3.out.only h5 (fun h => by omega) (fun k hk h => by have := HVL.out k hk; omega))
    have HLW := Lib.hid (HL.out.2.only OW.out (fun _ _ _ h => h))
    clear h1 h4 h5 hK g4 g5 g6 k4 k5 k6 q1 hW0 HB3 HUP hs0 hwW
    go_wp2_with (fail)
    go_loopw [8] (fun vi wr => ∃ i : Nat, vi = .int .i64 i ∧ i ≤ len ∧ Hid (Only (fun _ => False) W wr)) (fun vi _ => len - (intOf vi).toNat)
    case atStart => exact ⟨0, rfl, Nat.zero_le _, Only.refl _ _⟩
    case round =>
      obtain ⟨i, rfl, hil, HO⟩ := hrel
      by_cases hlt : i < len
      · obtain ⟨ga, oa, rfl, _, hca⟩ := HLW.out (by have := HL.out.1; omega)
        obtain ⟨li, hli⟩ : ∃ li, li = l.getD i 0 := ⟨_, rfl⟩
        have HCA := Lib.hid hca
        have HLI := Lib.hid hli
        clear hca hli
        go_wp2_with (fail)
        go_loopw [9, 10] (fun vk vj wr2 => ∃ j k : Nat, vk = .int .i64 k ∧ vj = .int .i64 j ∧ j ≤ len ∧ k ≤ j ∧ Hid (k = (l.take j).countP (fun y => decide (y = li))) ∧ Hid (Only (fun _ => False) W wr2)) (fun _ vj _ => len - (intOf vj).toNat)
        case atStart => exact ⟨0, 0, rfl, rfl, Nat.zero_le _, Nat.le_refl _, rfl, HO⟩
        case round =>
          clear HO
          obtain ⟨j, k, rfl, rfl, hjl, hkj, HKJ, HO⟩ := hrel
          by_cases hlt2 : j < len
          · obtain ⟨lj, hlj⟩ : ∃ lj, lj = l.getD j 0 := ⟨_, rfl⟩
            have ci : wr.cell? ⟨ga, oa + i, none⟩ = some (.int .i64 li) := by rw [HLI.out]; exact HO.out.cell (HCA.out i (by have := HL.out.1; omega)) id
            have cj : wr.cell? ⟨ga, oa + j, none⟩ = some (.int .i64 lj) := by rw [hlj]; exact HO.out.cell (HCA.out j (by have := HL.out.1; omega)) id
            have HLJ := Lib.hid hlj
            clear hlj
            have hbi : oa + i < oa + len := by omega
            by_cases heq : lj = li
            · have HE := Lib.hid heq
              have he : (lj == li) = true := by simpa using heq
              clear heq
              go_wp2_with (fail)
              go_region_held3 (fun w' => w'.cell? ⟨ga, oa + i, none⟩ = some (.int .i64 li) ∧ w'.cell? ⟨ga, oa + j, none⟩ = some (.int .i64 lj)) (exact ⟨ci, cj⟩) (fail)
              go_wp2_with (fail)
              go_roundw
              case rel => exact ⟨j + 1, k + 1, by go_num, by go_num, by omega, by omega, by rw [HKJ.out, count_snoc l li j (by have := HL.out.1; omega), ← HLJ.out, if_pos HE.out]; rfl, HO.out.drewN 1⟩
              case measure => simp [intOf]; omega
            · have HE := Lib.hid heq
              have he : (lj == li) = false := by simpa using heq
              clear heq
              go_wp2_with (fail)
              go_region_held3 (fun w' => w'.cell? ⟨ga, oa + i, none⟩ = some (.int .i64 li) ∧ w'.cell? ⟨ga, oa + j, none⟩ = some (.int .i64 lj)) (exact ⟨ci, cj⟩) (fail)
              go_wp2_with (fail)
              go_roundw
              case rel => exact ⟨j + 1, k, by go_num, rfl, by omega, by omega, by rw [HKJ.out, count_snoc l li j (by have := HL.out.1; omega), ← HLJ.out, if_neg HE.out]; rfl, HO.out.drewN 1⟩
              case measure => simp [intOf]; omega
          · obtain rfl : j = len := by omega
            have ci : wr.cell? ⟨ga, oa + i, none⟩ = some (.int .i64 li) := by rw [HLI.out]; exact HO.out.cell (HCA.out i (by have := HL.out.1; omega)) id
            have hk : cntI xs li = k := by
              rw [HCNT.out, HKJ.out, HL.out.1, List.take_length]
            have HKK := Lib.hid hk
            clear hk
            go_wp2_with (fail)
            refine (countI_n bb v xs li k _ (HBW.out.only HO.out id (fun _ _ => id)) (by have := HXL.out; omega) HKK.out).mono ?_
            rintro _ w9 ⟨rfl, o9⟩
            have O9 := Lib.hid (HO.out.trans o9 (fun _ _ h => h))
            clear o9
            go_wp2_with (fail)
            go_roundw
            case rel => exact ⟨i + 1, by go_num, by omega, O9⟩
            case measure => simp [intOf]; omega
      · obtain rfl : i = len := by omega
        have c5 := cell_of_one (HO.out.keep G5.out id)
        have k4 := HO.out.keep G4.out id
        have c4 := cell_of_one k4
        have f4 := free_of_one k4
        have K4 := Lib.hid k4
        have HKD := Lib.hid (HO.out.keep HK.out id)
        clear k4
        go_wp2_with (fail)
        have e5 := one_setCell (u := .bool true) K4.out
        have ho : Only (fun k => k = w.heap.size) wr (wr.setCell ⟨w.heap.size, 0, none⟩ (.bool true)) := Only.setAt (Only.refl _ wr) 0 _
        have hp : Only (fun k => k = D) (wr.setCell ⟨w.heap.size, 0, none⟩ (.bool true)) ((wr.setCell ⟨w.heap.size, 0, none⟩ (.bool true)).putObj D (.deferred none)) := only_putObj (Only.refl _ _) _ _ (.inl rfl)
        have hzz := HS3.out
        refine ⟨by simp, .inl ⟨_, _, rfl, run_takeDeferred (ho.keep HKD.out (fun h => by omega)), ?_⟩⟩
        exact ⟨_, results_cell_one rfl _ _ ⟨w.heap.size, 0, none⟩ _ _ rfl (cell_of_one (hp.keep e5 (fun h => by omega))) Try.underlying4 rfl, rfl, (((OW.out.trans HO.out (fun _ _ h => h)).trans ho (fun j hj h => by omega)).trans hp (fun j hj h => by omega))⟩

end Go.Proofs.Ytofachfbphinaaa
