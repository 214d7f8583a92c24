/- The walk of the law LinkHeads: it returns true. -/
import Derived.Test.YtflcdbefakjcbaaO6
import Derived.Test.YtflcdbefakjcbaaP7
namespace Go.Proofs.Ytflcdbefakjcbaa
open Go.RowKit Go.Gav Go.BigFrame Go.Shelf
attribute [local go_sem] Oper.semAt_some

set_option maxRecDepth 100000 in
theorem lheads_big (n : Int) (a : Option Addr) (len cap : Nat) (w : World) (h : 200 < len) :
    Calls Try.prog 7 #[.int .u8 n, .slice a len cap] w fun e w' => e = .returned (.bool true) ∧ Only (fun _ => False) w w' := by
  refine callsIn_wide.1 (callsIn_of_wp_marks (F := Fence.wide) (n := 0) Try.func7 rfl trivial ?_)
  simp only [Try.ntmps7, List.size_toArray, List.length_cons, List.length_nil, Nat.reduceAdd, Nat.reduceSub, Array.replicate_succ, Array.replicate_zero, List.push_toArray, List.append_toArray, List.nil_append, List.cons_append]
  refine wpIn_wide.2 ?_
  go_wp2_with (fail)
  refine (awake_net _).mono ?_
  rintro e w1 ⟨rfl, o1⟩
  have O1 := Lib.hid o1
  have k1 := Lib.hid (o1.keep (heap_alloc_new w (.cells #[.bool false] 4)) id)
  clear o1
  go_wp2_with (fail)
  refine (awake_net _).mono ?_
  rintro e w2 ⟨rfl, o2⟩
  have O2 := Lib.hid o2
  have k2 := o2.keep k1.out id
  have c2 := cell_of_one k2
  have f2 := free_of_one k2
  have K2 := Lib.hid k2
  clear o2 k2
  go_wp2
  have hO : Only (fun _ => False) w (w2.setCell ⟨w.heap.size, 0, none⟩ (.bool true)) := ((((Only.refl (fun _ => False) w).alloc _).trans O1.out (fun _ _ h => h)).trans O2.out (fun _ _ h => h)).setCell (p := ⟨w.heap.size, 0, none⟩) (.inr (Nat.le_refl _)) _
  exact ⟨_, results_cell_one rfl _ _ ⟨w.heap.size, 0, none⟩ _ _ rfl (cell_of_one (one_setCell K2.out)) Try.underlying4 rfl, rfl, hO⟩

theorem wrap_i64 (m : Nat) (h : m ≤ 1000000) : IntKind.i64.wrap (m : Int) = m := by
  have e : IntKind.i64.bits = 64 := rfl
  have e2 : IntKind.i64.signed = true := rfl
  simp [IntKind.wrap, e, e2]
  omega

/-- What holds between calls. -/
structure Hd (w wr : World) (xb bx n : Nat) (S : Nat → Prop) (f : Cont) : Prop where
  net : Net wr S xb n 50 f
  res : wr.heap[w.heap.size]? = some (.cells #[.bool false] 4 (0, 0))
  box : wr.heap[bx]? = some (.cells #[.pointer (some ⟨xb, 0, none⟩)] 51 (0, 0))
  lo : ∀ q, S q → w.heap.size < q ∧ q ≠ bx
  bxl : w.heap.size < bx
  only : Only (fun _ => False) w wr

variable {w wr w2 : World} {xb bx n : Nat} {S S' : Nat → Prop} {f f' : Cont}

theorem Hd.keep (h : Hd w wr xb bx n S f) (ho : Only (fun _ => False) wr w2) : Hd w w2 xb bx n S f :=
  ⟨h.net.only ho (fun _ _ => id), ho.keep h.res id, ho.keep h.box id, h.lo, h.bxl, h.only.trans ho (fun _ _ h => h)⟩
theorem Hd.keepT {T : Nat → Prop} (h : Hd w wr xb bx n S f) (ho : Only T wr w2) (hT : ∀ q, T q → w.heap.size < q ∧ q ≠ bx ∧ ¬ S q) : Hd w w2 xb bx n S f :=
  ⟨h.net.only ho (fun q hq hh => (hT q hh).2.2 hq), ho.keep h.res (fun hh => by have := (hT _ hh).1; omega), ho.keep h.box (fun hh => (hT _ hh).2.1 rfl), h.lo, h.bxl, h.only.trans ho (fun j hj hh => by have := (hT _ hh).1; omega)⟩
theorem Hd.turn (h : Hd w wr xb bx n S f) (hN : Net w2 S' xb n 50 f') (hS : ∀ q, S' q → S q ∨ wr.heap.size ≤ q) (ho : Only S wr w2) : Hd w w2 xb bx n S' f' := by
  have h1 := lt_of_block h.res
  have h2 := lt_of_block h.box
  refine ⟨hN, ho.keep h.res (fun hh => by have := (h.lo _ hh).1; omega), ho.keep h.box (fun hh => (h.lo _ hh).2 rfl), fun q hq => ?_, h.bxl, h.only.trans ho (fun j hj hh => by have := (h.lo _ hh).1; omega)⟩
  rcases hS q hq with h3 | h3
  · exact h.lo q h3
  · omega

set_option maxRecDepth 100000 in
set_option maxHeartbeats 4000000 in
theorem lheads_walk (n : Int) (a : Option Addr) (len cap : Nat) (D : Nat → Int) (X : Nat → Int × Int × Int) (w : World) (hn : 0 ≤ n ∧ n ≤ 255) (hl : IsLacts w a len D X) (hlen : len ≤ 200) :
    Calls Try.prog 7 #[.int .u8 n, .slice a len cap] w fun e w' => e = .returned (.bool true) ∧ Only (fun _ => False) w w' := by
  obtain ⟨k, hk⟩ : ∃ k : Nat, 1 + n % 8 = k := ⟨(1 + n % 8).toNat, by omega⟩
  have hk8 : 1 ≤ k ∧ k ≤ 8 := by omega
  have HL := Lib.hid hl
  clear hl
  refine callsIn_wide.1 (callsIn_of_wp_marks (F := Fence.wide) (n := 0) Try.func7 rfl trivial ?_)
  simp only [Try.ntmps7, List.size_toArray, List.length_cons, List.length_nil, Nat.reduceAdd, Nat.reduceSub, Array.replicate_succ, Array.replicate_zero, List.push_toArray, List.append_toArray, List.nil_append, List.cons_append]
  refine wpIn_wide.2 (wp_calm ?_)
  go_wp2_with (fail)
  refine (awake_net _).mono ?_
  rintro e w1 ⟨rfl, o1⟩
  have O1 := Lib.hid (((Only.refl (fun _ => False) w).alloc (.cells #[.bool false] 4)).trans o1 (fun _ _ h => h))
  have K1 := Lib.hid (o1.keep (heap_alloc_new w (.cells #[.bool false] 4)) id)
  clear o1
  go_wp2_with (fail)
  have hc := net_new k 50 w1 hk8 (by omega)
  refine hc.mono ?_
  rintro e w2 ⟨S, xb, rfl, hnet, hS, o2⟩
  have O2 := Lib.hid (O1.out.trans o2 (fun _ _ h => h))
  have K2 := Lib.hid (o2.keep K1.out id)
  have hkl := lt_of_block K1.out
  have HS := Lib.hid (show ∀ q, S q → w.heap.size < q from fun q hq => by have := hS q hq; omega)
  have HN := Lib.hid hnet
  clear o2 hS hnet O1 K1 hc hk hn
  go_wp2_with (fail)
  have hHd : Hd w (w2.alloc (Obj.cells #[Value.pointer (some ⟨xb, 0, none⟩)] 51)) xb w2.heap.size k S (fun _ => []) := by
    have o3 : Only (fun _ => False) w2 (w2.alloc (Obj.cells #[Value.pointer (some ⟨xb, 0, none⟩)] 51)) := (Only.refl _ _).alloc _
    exact ⟨HN.out.only o3 (fun _ _ => id), o3.keep K2.out id, heap_alloc_new _ _, fun q hq => ⟨HS.out q hq, by have := HN.out.lt q hq; omega⟩, lt_of_block K2.out, O2.out.trans o3 (fun _ _ h => h)⟩
  have HHD := Lib.hid hHd
  clear hHd HN HS K2 O2 hkl
  generalize w2.alloc (Obj.cells #[Value.pointer (some ⟨xb, 0, none⟩)] 51) = w3 at *
  generalize w2.heap.size = bx at *
  go_loopw [7] (fun vi wr => ∃ (i : Nat) (S : Nat → Prop) (f : Cont), vi = .int .i64 i ∧ i ≤ len ∧ Hid (Hd w wr xb bx k S f)) (fun vi _ => len - (intOf vi).toNat)
  case atStart => exact ⟨0, S, _, rfl, Nat.zero_le _, HHD⟩
  case round =>
    clear HHD
    obtain ⟨i, S, f, rfl, hil, HO⟩ := hrel
    by_cases hlt : i < len
    · obtain ⟨bb, off, rfl, hc⟩ := HL.out (by omega)
      obtain ⟨-, y1, y2, y3, -⟩ := hc i hlt
      obtain ⟨x1, hx1⟩ : ∃ x, x = (X i).1 := ⟨_, rfl⟩
      obtain ⟨x2, hx2⟩ : ∃ x, x = (X i).2.1 := ⟨_, rfl⟩
      obtain ⟨x3, hx3⟩ : ∃ x, x = (X i).2.2 := ⟨_, rfl⟩
      rw [← hx1] at y1
      rw [← hx2] at y2
      rw [← hx3] at y3
      have e1 := HO.out.only.cell y1 id
      have e2 := HO.out.only.cell y2 id
      have e3 := HO.out.only.cell y3 id
      have eb := cell_of_one HO.out.box
      clear y1 y2 y3 hc hx1 hx2 hx3
      go_wp2_with (fail)
      refine wp_region_mixed [] [0, 1, 2, 3, 4, 5, 6, 7, 8, 9, 10, 11, 12, 13, 14, 15] 16 [] (by kernel_rfl) (by kernel_rfl) (fun _ _ _ _ h => h) ?_
      simp only [pick, consO, List.getElem?_toArray, List.getElem?_cons_succ, List.getElem?_cons_zero, movesOf]
      iterate 16 (go_big_quiet_step (fail))
      refine wpQuiet_nil ?_
      rintro _ ⟨nq, rfl⟩
      have H4 := Lib.hid (HO.out.keep ((Only.refl _ _).drewN nq))
      clear e1 e2 e3 eb HO
      go_wp2_with (first | (go_at_call 27; refine (net_send_any x1 x2 x3 _ H4.out.net).mono ?_; rintro e w5 ⟨rfl, ⟨S5, n5, l5⟩, o5⟩; have H5 := Lib.hid (H4.out.turn n5 l5 o5); clear n5 l5 o5) | fail)
      go_roundw
      case rel => exact ⟨i + 1, S5, _, by go_num, by omega, H5⟩
      case measure => simp [intOf]; omega
    · obtain rfl : i = len := by omega
      clear HL
      go_wp2_with (fail)
      refine wp_loop_marksM [8, 9, 53, 54, 55, 56, 57, 58, 59, 80, 81, 82, 83, 84, 85, 86, 87, 88, 89, 90] (fun m Ds _ wr => ∃ (S : Nat → Prop) (f : Cont), m = tot f (gridE k) ∧ Hid (Hd w wr xb bx k S f) ∧ Hid (Ds.Nodup ∧ ∀ D ∈ Ds, wr.heap[D]? = some (.deferred (some [])) ∧ w.heap.size < D) ∧ Hid (∀ D ∈ Ds, ¬ S D)) (tot f (gridE k)) [] rfl ?_ ?_ ?_
      · exact ⟨S, f, rfl, HO, ⟨List.nodup_nil, fun D hD => by simp at hD⟩, fun D hD => by simp at hD⟩
      · simp only [putS, List.setIfInBounds_toArray, List.set_cons_zero, List.set_cons_succ]
        rfl
      · clear HO
        rintro m Ds us wq ⟨S, f, hm, HO, HMK, HDS⟩
        simp only [putS, List.setIfInBounds_toArray, List.set_cons_zero, List.set_cons_succ]
        generalize us 8 = u8
        generalize us 9 = u9
        generalize us 53 = u53
        generalize us 54 = u54
        generalize us 55 = u55
        generalize us 56 = u56
        generalize us 57 = u57
        generalize us 58 = u58
        generalize us 59 = u59
        generalize us 80 = u80
        generalize us 81 = u81
        generalize us 82 = u82
        generalize us 83 = u83
        generalize us 84 = u84
        generalize us 85 = u85
        generalize us 86 = u86
        generalize us 87 = u87
        generalize us 88 = u88
        generalize us 89 = u89
        generalize us 90 = u90
        have eb := cell_of_one HO.out.box
        have HC := net_len wq HO.out.net
        have hmb := HO.out.net.tot_le
        rw [← hm] at HC hmb
        have HM := Lib.hid hm
        clear hm
        go_wp2_with (fail)
        refine HC.mono ?_
        rintro e w4 ⟨rfl, o4⟩
        have H4 := Lib.hid (HO.out.keep o4)
        have MK4 := Lib.hid (show Ds.Nodup ∧ ∀ D ∈ Ds, w4.heap[D]? = some (.deferred (some [])) ∧ w.heap.size < D from ⟨HMK.out.1, fun D hD => ⟨o4.keep (HMK.out.2 D hD).1 id, (HMK.out.2 D hD).2⟩⟩)
        have eb := cell_of_one H4.out.box
        clear HC HO HMK o4
        rcases Nat.eq_zero_or_pos m with rfl | hpos
        · have r4 := cell_of_one H4.out.res
          have f4 := free_of_one H4.out.res
          go_wp2
          have ho : Only (fun q => q = w.heap.size) w4 (w4.setCell ⟨w.heap.size, 0, none⟩ (.bool true)) := Only.setAt (Only.refl _ _) 0 _
          refine leaves_marks Ds _ MK4.out.1 (fun D hD => ho.keep (MK4.out.2 D hD).1 (fun e => by have := (MK4.out.2 D hD).2; have e' : D = w.heap.size := e; omega)) (fun W' ho' => ?_)
          have hres : W'.heap[w.heap.size]? = some (.cells #[.bool true] 4 (0, 0)) := ho'.keep (one_setCell H4.out.res) (fun hh => by have := (MK4.out.2 _ hh).2; omega)
          exact ⟨_, results_cell_one rfl _ _ ⟨w.heap.size, 0, none⟩ _ _ rfl (cell_of_one hres) Try.underlying4 rfl, rfl, (H4.out.only.trans ho (fun j hj h => by omega)).trans ho' (fun j hj h => by have := (MK4.out.2 _ h).2; omega)⟩
        · have hpz : (0 : Int) < (m : Int) := by omega
          go_wp2_with (fail)
          refine (net_copy w4 H4.out.net).mono ?_
          rintro e w5 ⟨Sy, yb, rfl, ny, ly, o5⟩
          have H5 := Lib.hid (H4.out.keep o5)
          have NY := Lib.hid ny
          have LY := Lib.hid ly
          have MK5 := Lib.hid (show Ds.Nodup ∧ ∀ D ∈ Ds, w5.heap[D]? = some (.deferred (some [])) ∧ w.heap.size < D from ⟨MK4.out.1, fun D hD => ⟨o5.keep (MK4.out.2 D hD).1 id, (MK4.out.2 D hD).2⟩⟩)
          have HDJ := Lib.hid (show ∀ q, Sy q → ¬ S q from fun q hq hs => by have := ly q hq; have := H4.out.net.lt q hs; omega)
          have HSZ4 := Lib.hid (show w.heap.size < w4.heap.size from lt_of_block H4.out.res)
          clear ny ly o5 H4 MK4 eb
          go_wp2_with (first | (go_at_call 30; refine (nheads_call _ _).mono ?_; rintro e w6 ⟨rfl, hw6⟩; have HW6 := Lib.hid hw6; clear hw6) | fail)
          have hw6 := HW6.out
          obtain ⟨hc0, hc1⟩ := handedW_cells (w5.alloc (.cells #[.int .i64 0] 3)) (some ⟨yb, 0, none⟩) 42
          have o56 : Only (fun _ => False) w5 w6 := by rw [hw6]; exact ((Only.refl _ _).alloc _).trans (handedW_only _ _ _) (fun _ _ h => h)
          have hkb6 : w6.heap[w5.heap.size]? = some (.cells #[.int .i64 0] 3 (0, 0)) := by rw [hw6]; exact (handedW_only _ _ _).keep (heap_alloc_new _ _) id
          have hs6 : w5.heap.size + 3 = w6.heap.size := by rw [hw6]; simp [handedW]
          rw [← hw6, World.size_alloc] at hc0 hc1
          have H6 := Lib.hid (H5.out.keep o56)
          have NY6 := Lib.hid (NY.out.only o56 (fun _ _ => id))
          have MK6 := Lib.hid (show Ds.Nodup ∧ ∀ D ∈ Ds, w6.heap[D]? = some (.deferred (some [])) ∧ w.heap.size < D ∧ D < w5.heap.size from ⟨MK5.out.1, fun D hD => ⟨o56.keep (MK5.out.2 D hD).1 id, (MK5.out.2 D hD).2, lt_of_block (MK5.out.2 D hD).1⟩⟩)
          have HSL := Lib.hid (show (∀ q, S q → q < w5.heap.size) ∧ (∀ q, Sy q → q < w5.heap.size ∧ w.heap.size < q) ∧ w.heap.size < bx ∧ bx < w5.heap.size from ⟨H5.out.net.lt, fun q hq => ⟨NY.out.lt q hq, by have := LY.out q hq; have := HSZ4.out; omega⟩, H5.out.bxl, lt_of_block H5.out.box⟩)
          have hit := heads_iter (w5.heap.size + 1) (w5.heap.size + 1 + 1) w6 hc0 hc1 NY6.out
          rw [handH_eq] at hit
          have hPn := fullL_nodup (f := f) (nodup_sorted (sorted_grid k))
          have hPh := fun p (hp : p ∈ fullL f (gridE k)) => fullL_head hp
          have hPp := fullL_pos f (gridE k) (by rw [← HM.out]; exact hpos)
          have hPt := tot_cut f (gridE k)
          rw [← HM.out] at hPt
          obtain ⟨P, hP⟩ : ∃ P, P = fullL f (gridE k) := ⟨_, rfl⟩
          rw [← hP] at hit hPn hPh hPp hPt
          have hPl : P.length ≤ 3200 := by omega
          have HP := Lib.hid (And.intro hPn hPh)
          have HPT := Lib.hid hPt
          have KB6 := Lib.hid hkb6
          clear hw6 HW6 hc0 hc1 o56 hkb6 H5 NY MK5 LY hPn hPh hPt hP HSZ4
          generalize w5.heap.size = kb at *
          refine wp_rangeS (gf := 51) (encs := encH) (xs := P.map fun p => (p, (f p).headD 0)) (S := fun _ => False) (lb := #[.pointer (some ⟨kb + 1, 0, none⟩), .pointer (some ⟨kb + 1 + 1, 0, none⟩)]) rfl (enters_of Try.func51 (by kernel_rfl) rfl) (fun _ h => h.elim) hit (fun x => rfl) ?_
          intro W0 hW0 hs0
          have hsp : ∀ q, Span w6.heap.size W0.heap.size q → w.heap.size < q ∧ q ≠ bx ∧ ¬ S q ∧ ¬ Sy q ∧ q ≠ kb := fun q hq => by
            have h1 := hq.1
            obtain ⟨hS1, hS2, hb1, hb2⟩ := HSL.out
            exact ⟨by omega, by omega, fun hs => by have := hS1 q hs; omega, fun hs => by have := (hS2 q hs).1; omega, by omega⟩
          have HSP := Lib.hid hsp
          have stab : ∀ (j : Nat) (W1 W2 : World), (j ≤ P.length ∧ Hd w W1 xb bx k S (cutF f (P.take j)) ∧ Net W1 Sy yb k 50 f ∧ W1.heap[kb]? = some (.cells #[.int .i64 j] 3 (0, 0)) ∧ (∀ D ∈ Ds, W1.heap[D]? = some (.deferred (some []))) ∧ W0.heap.size ≤ W1.heap.size) → Only (Span w6.heap.size W0.heap.size) W1 W2 →
              (j ≤ P.length ∧ Hd w W2 xb bx k S (cutF f (P.take j)) ∧ Net W2 Sy yb k 50 f ∧ W2.heap[kb]? = some (.cells #[.int .i64 j] 3 (0, 0)) ∧ (∀ D ∈ Ds, W2.heap[D]? = some (.deferred (some []))) ∧ W0.heap.size ≤ W2.heap.size) := by
            rintro j W1 W2 ⟨h1, h2, h3, h4, h5, h6⟩ ho
            exact ⟨h1, h2.keepT ho (fun q hq => ⟨(HSP.out q hq).1, (HSP.out q hq).2.1, (HSP.out q hq).2.2.1⟩), h3.only ho (fun q hq hh => (HSP.out q hh).2.2.2.1 hq), ho.keep h4 (fun hh => (HSP.out _ hh).2.2.2.2 rfl), fun D hD => ho.keep (h5 D hD) (fun hh => by have := hh.1; have := (MK6.out.2 D hD).2.2; omega), by have := ho.size; omega⟩
          have STAB := Lib.hid stab
          clear stab hsp
          refine ⟨fun j Wr => j ≤ P.length ∧ Hd w Wr xb bx k S (cutF f (P.take j)) ∧ Net Wr Sy yb k 50 f ∧ Wr.heap[kb]? = some (.cells #[.int .i64 j] 3 (0, 0)) ∧ (∀ D ∈ Ds, Wr.heap[D]? = some (.deferred (some []))) ∧ W0.heap.size ≤ Wr.heap.size, fun _ _ => False, ?_, STAB.out, fun _ _ _ h _ => h, ?_, ?_, fun _ _ _ _ _ h _ => h.elim⟩
          · exact ⟨Nat.zero_le _, by rw [List.take_zero, cutF_nil]; exact H6.out.keep hW0, NY6.out.only hW0 (fun _ _ => id), hW0.keep KB6.out id, fun D hD => hW0.keep (MK6.out.2 D hD).1 id, Nat.le_refl _⟩
          · rintro l2 j hj Wp W hI hoP
            have hWpB := hI.2.2.2.2.2
            obtain ⟨hjl, hHd, hNy, hkbc, hDs, hB⟩ := STAB.out j Wp W hI hoP
            rw [List.length_map] at hj
            have hjb : (j : Int) + 1 ≤ 4000 := by omega
            obtain ⟨⟨p1, p2⟩, hp⟩ : ∃ p, p = P[j] := ⟨_, rfl⟩
            have hxj : (P.map fun p => (p, (f p).headD 0))[j]'(by rw [List.length_map]; exact hj) = ((p1, p2), (f (p1, p2)).headD 0) := by rw [List.getElem_map, ← hp]
            rw [hxj]
            have hpm : (p1, p2) ∈ P := hp ▸ List.getElem_mem hj
            have hpn : (p1, p2) ∉ P.take j := fun hh => by
              have h9 := HP.out.1
              rw [← List.take_append_drop j P, List.nodup_append] at h9
              exact h9.2.2 _ hh _ (by rw [List.drop_eq_getElem_cons hj, ← hp]; simp) rfl
            have hhead := HP.out.2 _ hpm
            rw [← cutF_off f (P.take j) (p1, p2) hpn] at hhead
            have hcut := cutF_snoc f (P.take j) (p1, p2) hpn
            have htk : P.take j ++ [(p1, p2)] = P.take (j + 1) := by rw [List.take_succ_eq_append_getElem hj, ← hp]
            rw [htk] at hcut
            obtain ⟨hv, hhv⟩ : ∃ hv, hv = (cutF f (P.take j) (p1, p2)).headD 0 := ⟨_, rfl⟩
            rw [cutF_off f (P.take j) (p1, p2) hpn] at hhv
            rw [cutF_off f (P.take j) (p1, p2) hpn, ← hhv, ← cutF_off f (P.take j) (p1, p2) hpn] at hhead
            rw [← hhv]
            simp only [encH]
            have HHEAD := Lib.hid hhead
            have HCUT := Lib.hid hcut
            have HHd := Lib.hid hHd
            have HNy := Lib.hid hNy
            have HKB := Lib.hid hkbc
            have HDs := Lib.hid hDs
            clear hxj hp hpm hpn hhead hcut htk hhv hHd hNy hkbc hDs hI hit hW0 hoP
            gi_wp2
            have oW : Only (fun _ => False) W (W.alloc (Obj.cells #[Value.int .i64 p1, Value.int .i64 p2] 62)) := (Only.refl _ _).alloc _
            have hzW : (W.alloc (Obj.cells #[Value.int .i64 p1, Value.int .i64 p2] 62)).heap.size = W.heap.size + 1 := by simp
            refine ⟨oW.keptT (fun q hq => ⟨by rcases hq with hq | hq | hq <;> first | exact (show False from hq).elim | omega, id⟩), fun W2 ho => ?_⟩
            obtain ⟨-, hHd2, hNy2, hkb2, hDs2, hB2⟩ := STAB.out j _ W2 ⟨hjl, HHd.out.keep oW, HNy.out.only oW (fun _ _ => id), oW.keep HKB.out id, fun D hD => oW.keep (HDs.out D hD) id, by have := oW.size; omega⟩ ho
            have kx : W2.heap[W.heap.size]? = some (.cells #[.int .i64 p1, .int .i64 p2] 62 (0, 0)) := ho.keep (heap_alloc_new W _) (fun h => by have := h.2; omega)
            obtain ⟨z0, z1⟩ := two_cells kx
            have eb := cell_of_one hHd2.box
            have HC := net_take p1 p2 W2 hHd2.net
            rw [HHEAD.out, HCUT.out] at HC
            have HH2 := Lib.hid hHd2
            have HN2 := Lib.hid hNy2
            have HK2 := Lib.hid hkb2
            have HD2 := Lib.hid hDs2
            have hzz := ho.size
            clear hHd2 hNy2 hkb2 hDs2 HHd HNy HKB HDs HHEAD HCUT kx oW ho
            gi_wp2_with (fail)
            refine ⟨trivial, rfl, ?_⟩
            refine (CallsIn.inRound l2 (callsIn_wide.2 HC)).mono ?_
            rintro e W3 ⟨rfl, n3, o3⟩
            have hSL := HSL.out
            have H3 := Lib.hid (HH2.out.turn n3 (fun _ h => .inl h) o3)
            have N3 := Lib.hid (HN2.out.only o3 (fun q hq hs => HDJ.out q hq hs))
            have K3 := o3.keep HK2.out (fun hs => by have := hSL.1 _ hs; have := hSL; omega)
            have D3 := Lib.hid (show ∀ D ∈ Ds, W3.heap[D]? = some (.deferred (some [])) from fun D hD => o3.keep (HD2.out D hD) (fun hs => HDS.out D hD hs))
            have O3 := Lib.hid o3
            have KK3 := Lib.hid K3
            have c9 := cell_of_one K3
            have f9 := free_of_one K3
            clear HC n3 o3 K3 HH2 HN2 HK2 HD2 eb z0 z1
            gi_wp2
            have oS : Only (fun q => q = kb) W3 (W3.setCell ⟨kb, 0, none⟩ (.int .i64 ((j : Int) + 1))) := Only.setAt (Only.refl _ _) 0 _
            have hSL := HSL.out
            have hMK := MK6.out
            have hz3 := O3.out.size
            refine ⟨((O3.out.mono (S' := fun q => S q ∨ q = kb) (fun _ h => .inl h)).trans oS (fun _ _ h => .inr h)).keptT (fun q hq => ⟨?_, fun hh => ?_⟩), by omega, ?_, N3.out.only oS (fun q hq e => by have := (hSL.2.1 q hq).1; omega), ?_, fun D hD => oS.keep (D3.out D hD) (fun e => by have e' : D = kb := e; have := (hMK.2 D hD).2.2; omega), ?_⟩
            · rcases hq with hq | hq | hq
              · exact (show False from hq).elim
              · omega
              · omega
            · rcases hq with hq | hq | hq
              · exact (show False from hq).elim
              · rcases hh with hh | hh
                · have := hSL.1 q hh; omega
                · omega
              · rcases hh with hh | hh
                · have := hSL.1 q hh; omega
                · omega
            · exact H3.out.keepT oS (fun q e => by have e' : q = kb := e; exact ⟨by omega, by omega, fun hs => by have := hSL.1 q hs; omega⟩)
            · have h9 := one_setCell (u := .int .i64 ((j : Int) + 1)) KK3.out
              exact h9
            · have := oS.size; omega
          · rintro Dn W hD1 hD2 ⟨-, hHd, hNy, hkbc, hDs, hB⟩ hK
            rw [List.length_map] at hHd hkbc
            rw [List.take_length] at hHd
            obtain ⟨m2, hm2⟩ : ∃ m2, m2 = tot (cutF f P) (gridE k) := ⟨_, rfl⟩
            obtain ⟨hl, hhl⟩ : ∃ hl, hl = P.length := ⟨_, rfl⟩
            have hpt := HPT.out
            rw [← hm2, ← hhl] at hpt
            rw [← hhl] at hkbc hPp
            clear hhl
            have HX : Hid (∀ W', Only (fun _ => False) W W' → Calls Try.prog 28 #[.pointer (some ⟨xb, 0, none⟩)] W' fun e w' => e = .returned (.int .i64 m2) ∧ Only (fun _ => False) W' w') := fun W' ho => by
              have h := net_len W' (hHd.net.only ho (fun _ _ => id))
              rw [← hm2] at h
              exact h
            have HY : Hid (∀ W', Only (fun _ => False) W W' → Calls Try.prog 28 #[.pointer (some ⟨yb, 0, none⟩)] W' fun e w' => e = .returned (.int .i64 ((m2 : Int) + (hl : Int))) ∧ Only (fun _ => False) W' w') := fun W' ho => by
              have h := net_len W' (hNy.only ho (fun _ _ => id))
              rw [← HM.out, ← hpt] at h
              simpa using h
            have eb := cell_of_one hHd.box
            have c9 := cell_of_one hkbc
            have hk0 : ((hl : Int) == 0) = false := by simp; omega
            have HH := Lib.hid hHd
            have HDs := Lib.hid hDs
            have HKD := Lib.hid hK
            have HB := Lib.hid hB
            have hml : (m2 : Int) + (hl : Int) ≤ 1000000 := by omega
            have HM2 := Lib.hid hm2
            have hwr := wrap_i64 m2 (by omega)
            clear hHd hNy hkbc hDs hK hB hit hW0 hm2
            go_wp2_with (fail)
            refine wp_region_quiet (C := fun w' => Only (fun _ => False) W w') (by kernel_rfl) (by kernel_rfl) ((Only.refl _ _).drewN 1) ?_
            simp only []
            quiet_step ((intro ho; simp only [ho.cell c9 id, Result.andThen]; exact ⟨trivial, rfl⟩))
            quiet_step ((intro _; rfl))
            quiet_step ((intro _; rfl))
            quiet_step ((intro ho; simp only [ho.cell eb id, Result.andThen]; exact ⟨trivial, rfl⟩))
            quiet_step ((intro ho; refine (HX.out _ ho).mono ?_; rintro e w' ⟨rfl, o'⟩; exact ⟨rfl, ho.trans o' (fun _ _ h => h)⟩))
            quiet_step ((intro _; rfl))
            quiet_step ((intro ho; refine (HY.out _ ho).mono ?_; rintro e w' ⟨rfl, o'⟩; exact ⟨rfl, ho.trans o' (fun _ _ h => h)⟩))
            quiet_step ((intro ho; simp only [ho.cell c9 id, Result.andThen]; exact ⟨trivial, rfl⟩))
            quiet_step ((intro _; rfl))
            quiet_step ((intro _; rfl))
            quiet_step ((intro _; rfl))
            refine wpQuiet_nil ?_
            intro w8 o18
            (
              have HH8 := Lib.hid (HH.out.keep o18)
              have hMK := MK6.out
              have hSL := HSL.out
              have HMK8 := Lib.hid (show (Dn :: Ds).Nodup ∧ ∀ D ∈ Dn :: Ds, w8.heap[D]? = some (.deferred (some [])) ∧ w.heap.size < D from ⟨List.nodup_cons.2 ⟨fun hD => by have := (hMK.2 Dn hD).2.2; omega, hMK.1⟩, fun D hD => by
                rcases List.mem_cons.1 hD with rfl | hD
                · exact ⟨o18.keep HKD.out id, by omega⟩
                · exact ⟨o18.keep (HDs.out D hD) id, (hMK.2 D hD).2.1⟩⟩)
              have HDS8 := Lib.hid (show ∀ D ∈ Dn :: Ds, ¬ S D from fun D hD hs => by
                rcases List.mem_cons.1 hD with rfl | hD
                · have := hSL.1 _ hs; omega
                · exact HDS.out D hD hs)
              clear o18
              go_wp2
              exact ⟨m2, Dn :: Ds, _, rfl, rfl, ⟨S, _, HM2.out, HH8, HMK8, HDS8⟩, by omega⟩)

end Go.Proofs.Ytflcdbefakjcbaa
