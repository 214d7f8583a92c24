/- The walk of the law LinkAll: it returns true. -/
import Derived.Test.YtflcdbefakjcbaaM8
namespace Go.Proofs.Ytflcdbefakjcbaa
open Go.RowKit Go.Gav Go.BigFrame Go.Shelf
attribute [local go_sem] Oper.semAt_some

set_option maxRecDepth 100000 in
theorem lall_big (n : Int) (a : Option Addr) (len cap : Nat) (st : Int) (w : World) (h : 200 < len) :
    Calls Try.prog 11 #[.int .u8 n, .slice a len cap, .int .u8 st] w fun e w' => e = .returned (.bool true) ∧ Only (fun _ => False) w w' := by
  refine callsIn_wide.1 (callsIn_of_wp_marks (F := Fence.wide) (n := 0) Try.func11 rfl trivial ?_)
  simp only [Try.ntmps11, List.size_toArray, List.length_cons, List.length_nil, Nat.reduceAdd, Nat.reduceSub, Array.replicate_succ, Array.replicate_zero, List.push_toArray, List.append_toArray, List.nil_append, List.cons_append]
  refine wpIn_wide.2 ?_
  go_wp2_with (fail)
  refine (awake_net _).mono ?_
  rintro e w1 ⟨rfl, o1⟩
  have oB : Only (fun _ => False) w ((w.alloc (.cells #[.int .u8 st] 5)).alloc (.cells #[.bool false] 4)) := ((Only.refl _ _).alloc _).alloc _
  have O1 := Lib.hid (oB.trans o1 (fun _ _ h => h))
  have k1 := Lib.hid (o1.keep (heap_alloc2_new w (.cells #[.int .u8 st] 5) (.cells #[.bool false] 4)) id)
  clear o1 oB
  go_wp2_with (fail)
  refine (awake_net _).mono ?_
  rintro e w2 ⟨rfl, o2⟩
  have O2 := Lib.hid (O1.out.trans o2 (fun _ _ h => h))
  have k2 := o2.keep k1.out id
  have c2 := cell_of_one k2
  have f2 := free_of_one k2
  have K2 := Lib.hid k2
  clear o2 k2
  go_wp2
  have hO : Only (fun _ => False) w (w2.setCell ⟨w.heap.size + 1, 0, none⟩ (.bool true)) := O2.out.setCell (p := ⟨w.heap.size + 1, 0, none⟩) (.inr (by show w.heap.size ≤ w.heap.size + 1; omega)) _
  exact ⟨_, results_cell_one rfl _ _ ⟨w.heap.size + 1, 0, none⟩ _ _ rfl (cell_of_one (one_setCell K2.out)) Try.underlying4 rfl, rfl, hO⟩

/-- What lies in memory when the items are gone through: the stop, the answer, the document's two lists. -/
structure AllB (w W : World) (b st xb k rg1 rg2 : Nat) (ao1 ao2 : Option Addr) (cap1 cap2 : Nat) (S : Nat → Prop) (f : Cont) (H1 H2 : List It) : Prop where
  stop : W.heap[w.heap.size]? = some (.cells #[.int .u8 st] 5 (0, 0))
  res : W.heap[w.heap.size + 1]? = some (.cells #[.bool false] 4 (0, 0))
  l1 : W.heap[b]? = some (.cells #[.slice ao1 H1.length cap1] 71 (0, 0))
  l2 : W.heap[b + 1]? = some (.cells #[.slice ao2 H2.length cap2] 71 (0, 0))
  c1 : ∀ j u, (flat3 H1)[j]? = some u → W.cell? ⟨rg1, j, none⟩ = some u
  c2 : ∀ j u, (flat3 H2)[j]? = some u → W.cell? ⟨rg2, j, none⟩ = some u
  r1 : 0 < H1.length → rg1 < b ∧ ao1 = some ⟨rg1, 0, none⟩
  r2 : 0 < H2.length → rg2 < b ∧ ao2 = some ⟨rg2, 0, none⟩
  net : Net W S xb k 50 f
  slt : ∀ q, S q → q < b
  blt : w.heap.size + 1 < b
  only : Only (fun _ => False) w W

theorem AllB.keep {T : Nat → Prop} {w W W' : World} {b st xb k rg1 rg2 : Nat} {ao1 ao2 : Option Addr} {cap1 cap2 : Nat} {S : Nat → Prop} {f : Cont} {H1 H2 : List It} (h : AllB w W b st xb k rg1 rg2 ao1 ao2 cap1 cap2 S f H1 H2) (ho : Only T W W') (hT : ∀ q, T q → b + 1 < q) : AllB w W' b st xb k rg1 rg2 ao1 ao2 cap1 cap2 S f H1 H2 := by
  have hb := h.blt
  refine ⟨ho.keep h.stop (fun hh => by have := hT _ hh; omega), ho.keep h.res (fun hh => by have := hT _ hh; omega), ho.keep h.l1 (fun hh => by have := hT _ hh; omega), ho.keep h.l2 (fun hh => by have := hT _ hh; omega), fun j u hj => ?_, fun j u hj => ?_, h.r1, h.r2, h.net.only ho (fun q hq hh => by have := h.slt q hq; have := hT _ hh; omega), h.slt, hb, h.only.trans ho (fun j hj hh => by have := hT _ hh; omega)⟩
  · have hl := (List.getElem?_eq_some_iff.1 hj).1
    rw [flat3_length] at hl
    exact ho.cell (h.c1 j u hj) (fun (hh : T rg1) => by have := hT _ hh; have := (h.r1 (by omega)).1; omega)
  · have hl := (List.getElem?_eq_some_iff.1 hj).1
    rw [flat3_length] at hl
    exact ho.cell (h.c2 j u hj) (fun (hh : T rg2) => by have := hT _ hh; have := (h.r2 (by omega)).1; omega)

set_option maxRecDepth 100000 in
set_option maxHeartbeats 4000000 in
theorem lall_walk (n : Int) (a : Option Addr) (len cap : Nat) (D : Nat → Int) (X : Nat → Int × Int × Int) (st : Nat) (w : World) (hn : 0 ≤ n ∧ n ≤ 255) (hst : st ≤ 255) (hl : IsLacts w a len D X) (hlen : len ≤ 200) :
    Calls Try.prog 11 #[.int .u8 n, .slice a len cap, .int .u8 st] w fun e w' => e = .returned (.bool true) ∧ Only (fun _ => False) w w' := by
  obtain ⟨k, hk⟩ : ∃ k : Nat, 1 + n % 8 = k := ⟨(1 + n % 8).toNat, by omega⟩
  have hk8 : 1 ≤ k ∧ k ≤ 8 := by omega
  have oB : Only (fun _ => False) w ((w.alloc (.cells #[.int .u8 st] 5)).alloc (.cells #[.bool false] 4)) := ((Only.refl _ _).alloc _).alloc _
  have k5 : ((w.alloc (.cells #[.int .u8 st] 5)).alloc (.cells #[.bool false] 4)).heap[w.heap.size]? = some (.cells #[.int .u8 st] 5 (0, 0)) := hp_alloc (heap_alloc_new _ _) _
  have k6 : ((w.alloc (.cells #[.int .u8 st] 5)).alloc (.cells #[.bool false] 4)).heap[w.heap.size + 1]? = some (.cells #[.bool false] 4 (0, 0)) := heap_alloc2_new _ _ _
  have HL := Lib.hid hl
  refine callsIn_wide.1 (callsIn_of_wp_marks (F := Fence.wide) (n := 0) Try.func11 rfl trivial ?_)
  simp only [Try.ntmps11, List.size_toArray, List.length_cons, List.length_nil, Nat.reduceAdd, Nat.reduceSub, Array.replicate_succ, Array.replicate_zero, List.push_toArray, List.append_toArray, List.nil_append, List.cons_append]
  refine wpIn_wide.2 (wp_calm ?_)
  have OB := Lib.hid oB
  have K56 := Lib.hid (And.intro k5 k6)
  clear hl oB k5 k6
  go_wp2_with (fail)
  refine (awake_net _).mono ?_
  rintro e w1 ⟨rfl, o1⟩
  obtain ⟨wB, hwB⟩ : ∃ wB, wB = (w.alloc (.cells #[.int .u8 st] 5)).alloc (.cells #[.bool false] 4) := ⟨_, rfl⟩
  have O1 := Lib.hid (show Only (fun _ => False) wB w1 by rw [hwB]; exact o1)
  have HLB := Lib.hid (show IsLacts wB a len D X from fun h0 => by
    obtain ⟨b, off, e, hc⟩ := HL.out h0
    rw [hwB]
    exact ⟨b, off, e, fun i hi => by
      obtain ⟨g0, g1, g2, g3, r⟩ := hc i hi
      exact ⟨OB.out.cell g0 id, OB.out.cell g1 id, OB.out.cell g2 id, OB.out.cell g3 id, r⟩⟩)
  rw [← hwB] at OB K56
  have HWB := Lib.hid (show wB.heap.size = w.heap.size + 2 by rw [hwB]; simp)
  clear o1 HL hwB
  go_wp2_with (fail)
  have hc := net_new k 50 w1 hk8 (by omega)
  refine hc.mono ?_
  rintro e w2 ⟨S, xb, rfl, hnet, hS, o2⟩
  have O2 := Lib.hid (O1.out.trans o2 (fun _ _ h => h))
  have HS := Lib.hid (fun q hq => Nat.le_trans O1.out.size (hS q hq))
  have HN := Lib.hid hnet
  clear o2 hS hnet O1 hc hk hn
  go_wp2_with (fail)
  have o3 : Only (fun _ => False) w2 (w2.alloc (.cells #[.int .i64 k, .int .i64 50, .slice none 0 0] 73)) := (Only.refl _ _).alloc _
  have z := heap_alloc_new w2 (.cells #[.int .i64 k, .int .i64 50, .slice none 0 0] 73)
  have hO : Two wB (w2.alloc (.cells #[.int .i64 k, .int .i64 50, .slice none 0 0] 73)) xb w2.heap.size w2.heap.size k 50 0 S [] :=
    ⟨HN.out.only o3 (fun _ _ => id), ⟨none, 0, z, by simp, fun h => by simp at h, fun j u hj => by simp [flat3] at hj⟩, fun y hy => by simp at hy, by simp, fun q hq => by have := HN.out.lt q hq; omega, ⟨O2.out.size, O2.out.size, HS.out⟩, by simp, O2.out.trans o3 (fun _ _ h => h)⟩
  have HO := Lib.hid hO
  clear hO z o3 HN HS O2
  generalize w2.alloc (.cells #[.int .i64 k, .int .i64 50, .slice none 0 0] 73) = w3 at *
  generalize w2.heap.size = mb at *
  go_loopw [11] (fun vi wr => ∃ (i : Nat) (S : Nat → Prop) (L : List It) (rg : Nat), vi = .int .i64 i ∧ i ≤ len ∧ Hid (Two wB wr xb mb rg k 50 i S L)) (fun vi _ => len - (intOf vi).toNat)
  case atStart => exact ⟨0, S, [], mb, rfl, Nat.zero_le _, HO⟩
  case round =>
    clear HO
    obtain ⟨i, S, L, rg, rfl, hil, HO⟩ := hrel
    by_cases hlt : i < len
    · obtain ⟨bb, off, rfl, hc⟩ := HLB.out (by omega)
      obtain ⟨d0, y1, y2, y3, dlo, dhi, -⟩ := hc i hlt
      obtain ⟨x1, hx1⟩ : ∃ x, x = (X i).1 := ⟨_, rfl⟩
      obtain ⟨x2, hx2⟩ : ∃ x, x = (X i).2.1 := ⟨_, rfl⟩
      obtain ⟨x3, hx3⟩ : ∃ x, x = (X i).2.2 := ⟨_, rfl⟩
      rw [← hx1] at y1
      rw [← hx2] at y2
      rw [← hx3] at y3
      obtain ⟨d, hd⟩ : ∃ d, d = D i := ⟨_, rfl⟩
      rw [← hd] at d0 dlo dhi
      have HCE := Lib.hid (And.intro y1 (And.intro y2 y3))
      have e0 := HO.out.only.cell d0 id
      have e1 := HO.out.only.cell y1 id
      have e2 := HO.out.only.cell y2 id
      have e3 := HO.out.only.cell y3 id
      clear d0 y1 y2 y3 hc hx1 hx2 hx3 hd
      by_cases hd3 : d % 5 = 3
      · obtain ⟨hv, hb, hhv⟩ : ∃ (hv : Int) (hb : Bool), headV (onL L (x1, x2)) = .tuple #[.int .i64 hv, .bool hb] := ⟨_, _, rfl⟩
        go_wp2_with (fail)
        refine wp_region_mixed [] [0, 1, 2, 3, 4, 5, 6, 7, 8, 9, 10] 11 [] (by kernel_rfl) (by kernel_rfl) (fun _ _ _ _ h => h) ?_
        simp only [pick, consO, List.getElem?_toArray, List.getElem?_cons_succ, List.getElem?_cons_zero, movesOf]
        iterate 11 (go_big_quiet_step (fail))
        refine wpQuiet_nil ?_
        rintro _ ⟨nq, rfl⟩
        have H4 := Lib.hid (HO.out.keep ((Only.refl _ _).drewN nq))
        have HT := net_take x1 x2 _ H4.out.net
        rw [hhv] at HT
        have HHV := Lib.hid hhv
        clear hhv e0 e1 e2 e3 HO
        go_wp2_with (first | (go_at_call 31; refine HT.mono ?_; rintro e w5 ⟨rfl, n5, o5⟩; have N5 := Lib.hid n5; have O5 := Lib.hid o5; clear n5 o5 HT) | fail)
        have o5 := O5.out
        have hlo := H4.out.lo
        have m5 := H4.out.mn.only o5 (fun hh => (H4.out.ne _ hh).1 rfl) (fun hh => (H4.out.ne _ hh).2 rfl)
        have oB5 : Only (fun _ => False) wB w5 := H4.out.only.trans o5 (fun j hj hh => by have := hlo.2.2 j hh; omega)
        have e1 := oB5.cell HCE.out.1 id
        have e2 := oB5.cell HCE.out.2.1 id
        have M5 := Lib.hid m5
        clear o5 m5 oB5
        refine wp_region_mixed [] [0, 1, 2, 3, 4, 5, 6, 7, 8, 9, 10] 11 [] (by kernel_rfl) (by kernel_rfl) (fun _ _ _ _ h => h) ?_
        simp only [pick, consO, List.getElem?_toArray, List.getElem?_cons_succ, List.getElem?_cons_zero, movesOf]
        iterate 11 (go_big_quiet_step (fail))
        refine wpQuiet_nil ?_
        rintro _ ⟨nq2, rfl⟩
        have HT := doc_take_any x1 x2 _ (M5.out.only ((Only.refl (fun _ => False) _).drewN nq2) id id) H4.out.grid (by have := H4.out.len; omega)
        rw [HHV.out] at HT
        have N6 := Lib.hid (N5.out.only ((Only.refl (fun _ => False) _).drewN nq2) (fun _ _ => id))
        have O6 := Lib.hid (O5.out.drewN nq2)
        clear e1 e2 M5 N5 O5
        go_wp2_with (first | (go_at_call 34; refine HT.mono ?_; rintro e w6 ⟨rfl, ⟨rg6, L6, m6, e6, g6, l6, r6⟩, o6⟩; have n5 := N6.out; rw [← e6] at n5; have T := H4.out.turn n5 (fun _ h => .inl h) O6.out m6 r6 o6 g6 (by have := H4.out.len; omega); clear n5 m6 e6 g6 l6 r6 o6 HT) | fail)
        obtain ⟨rg7, t7⟩ := T
        have T7 := Lib.hid t7
        clear t7
        go_roundw
        case rel => exact ⟨i + 1, S, L6, rg7, by go_num, by omega, T7⟩
        case measure => simp [intOf]; omega
      · have hd3' : (d % 5 == 3) = false := by simpa using hd3
        go_wp2_with (fail)
        refine wp_region_mixed [] [0, 1, 2, 3, 4, 5, 6, 7, 8, 9, 10, 11, 12, 13, 14, 15] 16 [] (by kernel_rfl) (by kernel_rfl) (fun _ _ _ _ h => h) ?_
        simp only [pick, consO, List.getElem?_toArray, List.getElem?_cons_succ, List.getElem?_cons_zero, movesOf]
        iterate 16 (go_big_quiet_step (fail))
        refine wpQuiet_nil ?_
        rintro _ ⟨nq, rfl⟩
        have H4 := Lib.hid (HO.out.keep ((Only.refl _ _).drewN nq))
        have HT := net_send_any x1 x2 x3 _ H4.out.net
        clear e0 e1 e2 e3 HO
        go_wp2_with (first | (go_at_call 27; refine HT.mono ?_; rintro e w5 ⟨rfl, ⟨S5, n5, l5⟩, o5⟩; have N5 := Lib.hid n5; have L5 := Lib.hid l5; have O5 := Lib.hid o5; clear n5 l5 o5 HT) | fail)
        have o5 := O5.out
        have hlo := H4.out.lo
        have m5 := H4.out.mn.only o5 (fun hh => (H4.out.ne _ hh).1 rfl) (fun hh => (H4.out.ne _ hh).2 rfl)
        have oB5 : Only (fun _ => False) wB w5 := H4.out.only.trans o5 (fun j hj hh => by have := hlo.2.2 j hh; omega)
        have e1 := oB5.cell HCE.out.1 id
        have e2 := oB5.cell HCE.out.2.1 id
        have e3 := oB5.cell HCE.out.2.2 id
        have M5 := Lib.hid m5
        clear o5 m5 oB5
        refine wp_region_mixed [] [0, 1, 2, 3, 4, 5, 6, 7, 8, 9, 10, 11, 12, 13, 14, 15] 16 [] (by kernel_rfl) (by kernel_rfl) (fun _ _ _ _ h => h) ?_
        simp only [pick, consO, List.getElem?_toArray, List.getElem?_cons_succ, List.getElem?_cons_zero, movesOf]
        iterate 16 (go_big_quiet_step (fail))
        refine wpQuiet_nil ?_
        rintro _ ⟨nq2, rfl⟩
        have HT := doc_send_any x1 x2 x3 _ (M5.out.only ((Only.refl (fun _ => False) _).drewN nq2) id id) H4.out.grid (by have := H4.out.len; omega)
        have N6 := Lib.hid (N5.out.only ((Only.refl (fun _ => False) _).drewN nq2) (fun _ _ => id))
        have O6 := Lib.hid (O5.out.drewN nq2)
        clear e1 e2 e3 M5 N5 O5
        go_wp2_with (first | (go_at_call 33; refine HT.mono ?_; rintro e w6 ⟨rfl, ⟨rg6, L6, m6, e6, g6, l6, r6⟩, o6⟩; have n5 := N6.out; rw [← e6] at n5; have T := H4.out.turn n5 L5.out O6.out m6 r6 o6 g6 (by have := H4.out.len; omega); clear n5 m6 e6 g6 l6 r6 o6 HT) | fail)
        obtain ⟨rg7, t7⟩ := T
        have T7 := Lib.hid t7
        clear t7
        go_roundw
        case rel => exact ⟨i + 1, S5, L6, rg7, by go_num, by omega, T7⟩
        case measure => simp [intOf]; omega
    · obtain rfl : i = len := by omega
      clear HLB
      have hdl := HO.out.len
      go_wp2_with (fail)
      refine (doc_all false _ HO.out.mn hk8.2 (by omega)).mono ?_
      rintro e w4 ⟨v1, rfl, hrow1, o4⟩
      have HO4 := Lib.hid (HO.out.keep o4)
      have ROW1 := Lib.hid hrow1
      have hz4 := HO4.out.only.size
      have hzr := HO.out.only.size
      clear HO hrow1 o4
      go_wp2_with (fail)
      refine (doc_all true _ HO4.out.mn hk8.2 (by omega)).mono ?_
      rintro e w5 ⟨v2, rfl, hrow2, o5⟩
      rw [selB_true] at hrow2
      have hrow1 := ownsRow_only ROW1.out o5 (fun _ _ => id)
      rw [selB_false] at hrow1
      have HO5 := Lib.hid (HO4.out.keep o5)
      have HBL := Lib.hid (show (handL selA (onL L) (gridE k)).length ≤ 1000000 ∧ (handL selH (onL L) (gridE k)).length ≤ 1000000 from by
        have h1 := handL_le selA selA_le (onL L) 300 (gridE k) (fun x => Nat.le_trans (onL_len L x) (by omega))
        have h2 := handL_le selH selH_le (onL L) 300 (gridE k) (fun x => Nat.le_trans (onL_len L x) (by omega))
        have h3 := Nat.mul_le_mul_right 300 (grid_le k hk8.2)
        omega)
      obtain ⟨ao1, cap1, rfl, rg1, hr1, hc1⟩ := rowT hrow1
      obtain ⟨ao2, cap2, rfl, rg2, hr2, hc2⟩ := rowT hrow2
      obtain ⟨H1, hH1⟩ : ∃ H1, H1 = handL selA (onL L) (gridE k) := ⟨_, rfl⟩
      obtain ⟨H2, hH2⟩ : ∃ H2, H2 = handL selH (onL L) (gridE k) := ⟨_, rfl⟩
      rw [← hH1] at hr1 hc1 HBL ⊢
      rw [← hH2] at hr2 hc2 HBL ⊢
      have HH12 := Lib.hid (And.intro hH1 hH2)
      have HR1 := Lib.hid hr1
      have HR2 := Lib.hid hr2
      have HC1 := Lib.hid hc1
      have HC2 := Lib.hid hc2
      clear hrow1 hrow2 ROW1 HO4 o5 hr1 hr2 hc1 hc2 hH1 hH2
      obtain ⟨n1, hn1⟩ : ∃ n1, n1 = H1.length := ⟨_, rfl⟩
      obtain ⟨n2, hn2⟩ : ∃ n2, n2 = H2.length := ⟨_, rfl⟩
      rw [← hn1, ← hn2] at HBL
      rw [← hn1, ← hn2]
      have HN12 := Lib.hid (And.intro hn1 hn2)
      have hbl := HBL.out
      clear hn1 hn2 HBL
      go_wp2_with (first | (go_at_call 32; refine (nall_call _ _).mono ?_; rintro e w8 ⟨rfl, hw8⟩; have HW8 := Lib.hid hw8; clear hw8) | fail)
      have hw8 := HW8.out
      have o58 : Only (fun _ => False) w5 w8 := by rw [hw8]; exact ((((Only.refl _ _).alloc _).alloc _).alloc _).trans (handedW_only _ _ _) (fun _ _ h => h)
      obtain ⟨hc0, hc1⟩ := handedW_cells (((w5.alloc (Obj.cells #[Value.slice ao1 n1 cap1] 71)).alloc (Obj.cells #[Value.slice ao2 n2 cap2] 71)).alloc (Obj.cells #[Value.int .i64 0] 3)) (some ⟨xb, 0, none⟩) 44
      have hz8 : w5.heap.size + 5 = w8.heap.size := by rw [hw8]; simp [handedW]
      have k12 : w8.heap[w5.heap.size]? = some (.cells #[.slice ao1 n1 cap1] 71 (0, 0)) := by rw [hw8]; exact (handedW_only _ _ _).keep (hp_alloc (hp_alloc (heap_alloc_new w5 _) _) _) id
      have k13 : w8.heap[w5.heap.size + 1]? = some (.cells #[.slice ao2 n2 cap2] 71 (0, 0)) := by rw [hw8]; exact (handedW_only _ _ _).keep (hp_alloc (heap_alloc2_new w5 _ _) _) id
      have k14 : w8.heap[w5.heap.size + 1 + 1]? = some (.cells #[.int .i64 0] 3 (0, 0)) := by
        have h9 := heap_alloc_new ((w5.alloc (Obj.cells #[Value.slice ao1 n1 cap1] 71)).alloc (Obj.cells #[Value.slice ao2 n2 cap2] 71)) (Obj.cells #[Value.int .i64 0] 3)
        rw [World.size_alloc, World.size_alloc] at h9
        rw [hw8]; exact (handedW_only _ _ _).keep h9 id
      rw [← hw8, World.size_alloc, World.size_alloc, World.size_alloc] at hc0 hc1
      rw [HN12.out.1] at k12
      rw [HN12.out.2] at k13
      have hA : AllB w w8 w5.heap.size st xb k rg1 rg2 ao1 ao2 cap1 cap2 S (onL L) H1 H2 := by
        have oB8 := HO5.out.only.trans o58 (fun _ _ h => h)
        exact ⟨oB8.keep K56.out.1 id, oB8.keep K56.out.2 id, k12, k13, fun j u hj => o58.cell (HC1.out j u hj) id, fun j u hj => o58.cell (HC2.out j u hj) id, fun h0 => ⟨(HR1.out h0).2.2, (HR1.out h0).1⟩, fun h0 => ⟨(HR2.out h0).2.2, (HR2.out h0).1⟩, HO5.out.net.only o58 (fun _ _ => id), HO5.out.net.lt, by have := HO5.out.only.size; have := HWB.out; omega, OB.out.trans oB8 (fun _ _ h => h)⟩
      have hit := hall_iter (w5.heap.size + 1 + 1 + 1) (w5.heap.size + 1 + 1 + 1 + 1) w8 hc0 hc1 hA.net
      rw [← HH12.out.1] at hit
      have HA := Lib.hid hA
      have K14 := Lib.hid k14
      clear hw8 HW8 o58 hc0 hc1 k12 k13 k14 hA HO5 HC1 HC2 HR1 HR2 K56 OB hz4 hzr hdl HWB
      generalize w5.heap.size = b at *
      refine wp_rangeS (gf := 51) (encs := encH) (xs := H1) (S := fun _ => False) (lb := #[.pointer (some ⟨b + 1 + 1 + 1, 0, none⟩), .pointer (some ⟨b + 1 + 1 + 1 + 1, 0, none⟩)]) rfl (enters_of Try.func51 (by kernel_rfl) rfl) (fun _ h => h.elim) hit (fun x => rfl) ?_
      intro W0 hW0 hs0
      refine ⟨fun j Wr => j ≤ n1 ∧ (0 < st → j < st) ∧ AllB w Wr b st xb k rg1 rg2 ao1 ao2 cap1 cap2 S (onL L) H1 H2 ∧ Wr.heap[b + 1 + 1]? = some (.cells #[.int .i64 j] 3 (0, 0)) ∧ W0.heap.size ≤ Wr.heap.size,
        fun c Wr => c = .exit 2 ∧ ∃ j, j ≤ n1 ∧ j = st ∧ AllB w Wr b st xb k rg1 rg2 ao1 ao2 cap1 cap2 S (onL L) H1 H2 ∧ Wr.heap[b + 1 + 1]? = some (.cells #[.int .i64 j] 3 (0, 0)) ∧ W0.heap.size ≤ Wr.heap.size, ?_, ?_, ?_, ?_, ?_, ?_⟩
      · exact ⟨Nat.zero_le _, id, HA.out.keep hW0 (fun _ h => h.elim), hW0.keep K14.out id, Nat.le_refl _⟩
      · rintro j W1 W2 ⟨h1, h2, h3, h4, h5⟩ ho
        exact ⟨h1, h2, h3.keep ho (fun q hq => by have := hq.1; omega), ho.keep h4 (fun hq => by have := hq.1; omega), by have := ho.size; omega⟩
      · rintro c W1 W2 ⟨hc, j, h1, h2, h3, h4, h5⟩ ho
        exact ⟨hc, j, h1, h2, h3.keep ho (fun q hq => by have := hq.1; omega), ho.keep h4 (fun hq => by have := hq.1; omega), by have := ho.size; omega⟩
      · rintro l2 j hj Wp W ⟨-, hjs, h3p, h4p, h5p⟩ hoP
        have h3 := h3p.keep hoP (fun q hq => by have := hq.1; omega)
        have h4 := hoP.keep h4p (fun hq => by have := hq.1; omega)
        have h5 : W0.heap.size ≤ W.heap.size := by have := hoP.size; omega
        obtain ⟨⟨⟨p1, p2⟩, hv⟩, hp⟩ : ∃ p, p = H1[j] := ⟨_, rfl⟩
        have hmem := mem_cells h3.c1 j hj
        rw [← hp] at hmem ⊢
        simp only [encH]
        simp only at hmem
        have hjn : j < n1 := by rw [HN12.out.1]; exact hj
        have HP := Lib.hid hp
        have HA3 := Lib.hid h3
        have HK4 := Lib.hid h4
        clear hp hmem h3p h4p hoP h3 h4 hit hW0
        gi_wp2
        have oW : Only (fun _ => False) W (W.alloc (Obj.cells #[Value.int .i64 p1, Value.int .i64 p2] 62)) := (Only.refl _ _).alloc _
        have hzW : (W.alloc (Obj.cells #[Value.int .i64 p1, Value.int .i64 p2] 62)).heap.size = W.heap.size + 1 := by simp
        refine ⟨oW.keptT (fun q hq => ⟨by rcases hq with hq | hq | hq <;> first | exact (show False from hq).elim | omega, id⟩), fun W2 ho => ?_⟩
        have hA2 := (HA3.out.keep oW (fun _ h => h.elim)).keep ho (fun q hq => by have := hq.1; omega)
        have hk2 := ho.keep (oW.keep HK4.out id) (fun hq => by have := hq.1; omega)
        have kx : W2.heap[W.heap.size]? = some (.cells #[.int .i64 p1, .int .i64 p2] 62 (0, 0)) := ho.keep (heap_alloc_new W _) (fun h => by have := h.2; omega)
        obtain ⟨z0, z1⟩ := two_cells kx
        obtain ⟨q0, q1, q2⟩ := mem_cells hA2.c1 j hj
        rw [← HP.out] at q0 q1 q2
        simp only at q0 q1 q2
        have c12 : W2.cell? ⟨b, 0, none⟩ = some (.slice (some ⟨rg1, 0, none⟩) n1 cap1) := by
          rw [HN12.out.1, ← (hA2.r1 (by rw [← HN12.out.1]; omega)).2]
          exact cell_of_one hA2.l1
        have c14 := cell_of_one hk2
        have f14 := free_of_one hk2
        have cst := cell_of_one hA2.stop
        have hnj : ¬ (n1 : Int) ≤ (j : Int) := by omega
        have HA2 := Lib.hid hA2
        have HK2 := Lib.hid hk2
        have hzz := ho.size
        clear hA2 hk2 kx oW ho HA3 HK4
        gi_wp2
        have hdj : decide (n1 ≤ j) = false := by simp; omega
        refine wpIn_round_mixed [0, 1, 2, 3, 4, 5, 6, 7, 8, 9, 10, 11, 12, 13, 14, 15, 16, 17, 18, 19, 20, 21, 22, 23, 24, 25, 26, 27, 28, 29, 30, 31] 32 [] (by kernel_rfl) (by kernel_rfl) ?_
        simp only [pick, consO, List.getElem?_toArray, List.getElem?_cons_succ, List.getElem?_cons_zero]
        iterate 32 (go_big_quiet_step (fail))
        refine wpQuiet_nil ?_
        rintro _ ⟨nq, rfl⟩
        have fin : ∀ W4, W4 = (W2.drewN nq).setCell ⟨b + 1 + 1, 0, none⟩ (.int .i64 ((j : Int) + 1)) → KeptT (prot (fun _ => False) w8.heap.size W0.heap.size Wp.heap.size W.heap.size) W2 W4 ∧ AllB w W4 b st xb k rg1 rg2 ao1 ao2 cap1 cap2 S (onL L) H1 H2 ∧ W4.heap[b + 1 + 1]? = some (.cells #[.int .i64 ((j + 1 : Nat) : Int)] 3 (0, 0)) ∧ W0.heap.size ≤ W4.heap.size := by
          intro W4 hW4
          have oS : Only (fun q => q = b + 1 + 1) W2 W4 := by rw [hW4]; exact Only.setAt ((Only.refl _ _).drewN nq) 0 _
          refine ⟨oS.keptT (fun q hq => ?_), HA2.out.keep oS (fun q hq => by have e : q = b + 1 + 1 := hq; omega), ?_, by have := oS.size; omega⟩
          · rcases hq with hq | hq | hq
            · exact (show False from hq).elim
            · exact ⟨by omega, fun e => by have e' : q = b + 1 + 1 := e; omega⟩
            · exact ⟨by omega, fun e => by have e' : q = b + 1 + 1 := e; omega⟩
          · rw [hW4]
            have h9 := one_setCell (w := W2.drewN nq) (u := .int .i64 ((j : Int) + 1)) HK2.out
            rw [show ((j + 1 : Nat) : Int) = (j : Int) + 1 by omega]
            exact h9
        have cst2 := cell_of_one (fin _ rfl).2.1.stop
        have FIN := Lib.hid fin
        clear fin q0 q1 q2 z0 z1 c12 HA2 HP
        by_cases hs0 : 0 < st
        · have hs0' : (0 : Int) < (st : Int) := by omega
          by_cases hsj : st ≤ j + 1
          · have hsj' : (st : Int) ≤ (j : Int) + 1 := by omega
            gi_wp2
            obtain ⟨f1, f2, f3, f4⟩ := FIN.out _ rfl
            exact ⟨f1, rfl, j + 1, by omega, by have := hjs hs0; omega, f2, f3, f4⟩
          · have hsj' : ¬ (st : Int) ≤ (j : Int) + 1 := by omega
            gi_wp2
            obtain ⟨f1, f2, f3, f4⟩ := FIN.out _ rfl
            exact ⟨f1, by omega, by omega, f2, f3, f4⟩
        · have hs0' : ¬ (0 : Int) < (st : Int) := by omega
          have hsj' : (st : Int) ≤ (j : Int) + 1 := by omega
          gi_wp2
          obtain ⟨f1, f2, f3, f4⟩ := FIN.out _ rfl
          exact ⟨f1, by omega, f2, f3, f4⟩
      case' refine_5 =>
        rintro Dm W hD1 hD2 ⟨-, -, hA1, hk1, hB1⟩ hK
        obtain ⟨i1, hi1⟩ : ∃ i1, i1 = H1.length := ⟨_, rfl⟩
        rw [← hi1] at hk1
        have HI1 := Lib.hid (show i1 = n1 ∨ i1 = st from .inl (by rw [hi1, HN12.out.1]))
        have hib : i1 ≤ 1000000 := by rw [hi1, ← HN12.out.1]; exact hbl.1
        clear hi1
      case' refine_6 =>
        rintro c Dm W hD1 hD2 ⟨rfl, i1, hib', hi1, hA1, hk1, hB1⟩ hK
        have HI1 := Lib.hid (show i1 = n1 ∨ i1 = st from .inr hi1)
        have hib : i1 ≤ 1000000 := by omega
        clear hi1 hib'
      all_goals
        have HA1 := Lib.hid hA1
        have HK1 := Lib.hid hk1
        have HKD := Lib.hid hK
        have hbW : b + 1 + 1 < W.heap.size := lt_of_block hk1
        have hDW : Dm < W.heap.size := lt_of_block hK
        have hDb : b + 1 + 1 < Dm := by omega
        clear hA1 hk1 hK hit hW0
        go_wp2_with (first | (go_at_call 30; refine (nheads_call _ _).mono ?_; rintro e w10 ⟨rfl, hw10⟩; have HW10 := Lib.hid hw10; clear hw10) | fail)
        have hw10 := HW10.out
        obtain ⟨hc0, hc1⟩ := handedW_cells (W.alloc (.cells #[.int .i64 0] 3)) (some ⟨xb, 0, none⟩) 42
        have o10 : Only (fun _ => False) W w10 := by rw [hw10]; exact ((Only.refl _ _).alloc _).trans (handedW_only _ _ _) (fun _ _ h => h)
        have k17 : w10.heap[W.heap.size]? = some (.cells #[.int .i64 0] 3 (0, 0)) := by rw [hw10]; exact (handedW_only _ _ _).keep (heap_alloc_new _ _) id
        have hz10 : W.heap.size + 3 = w10.heap.size := by rw [hw10]; simp [handedW]
        rw [← hw10, World.size_alloc] at hc0 hc1
        have HA := Lib.hid (HA1.out.keep o10 (fun _ h => h.elim))
        have K14 := Lib.hid (o10.keep HK1.out id)
        have KDM := Lib.hid (o10.keep HKD.out id)
        have K17 := Lib.hid k17
        have hit := heads_iter (W.heap.size + 1) (W.heap.size + 1 + 1) w10 hc0 hc1 HA.out.net
        rw [← HH12.out.2] at hit
        clear hw10 HW10 hc0 hc1 o10 k17 HA1 HK1 HKD hB1
        generalize W.heap.size = bj at *
        refine wp_rangeS (gf := 51) (encs := encH) (xs := H2) (S := fun _ => False) (lb := #[.pointer (some ⟨bj + 1, 0, none⟩), .pointer (some ⟨bj + 1 + 1, 0, none⟩)]) rfl (enters_of Try.func51 (by kernel_rfl) rfl) (fun _ h => h.elim) hit (fun x => rfl) ?_
        intro V0 hW0 hs0
        refine ⟨fun j Wr => j ≤ n2 ∧ (0 < st → j < st) ∧ AllB w Wr b st xb k rg1 rg2 ao1 ao2 cap1 cap2 S (onL L) H1 H2 ∧ Wr.heap[bj]? = some (.cells #[.int .i64 j] 3 (0, 0)) ∧ Wr.heap[b + 1 + 1]? = some (.cells #[.int .i64 i1] 3 (0, 0)) ∧ Wr.heap[Dm]? = some (.deferred (some [])) ∧ V0.heap.size ≤ Wr.heap.size,
          fun c Wr => c = .exit 4 ∧ ∃ j, j ≤ n2 ∧ j = st ∧ AllB w Wr b st xb k rg1 rg2 ao1 ao2 cap1 cap2 S (onL L) H1 H2 ∧ Wr.heap[bj]? = some (.cells #[.int .i64 j] 3 (0, 0)) ∧ Wr.heap[b + 1 + 1]? = some (.cells #[.int .i64 i1] 3 (0, 0)) ∧ Wr.heap[Dm]? = some (.deferred (some [])) ∧ V0.heap.size ≤ Wr.heap.size, ?_, ?_, ?_, ?_, ?_, ?_⟩
        · exact ⟨Nat.zero_le _, id, HA.out.keep hW0 (fun _ h => h.elim), hW0.keep K17.out id, hW0.keep K14.out id, hW0.keep KDM.out id, Nat.le_refl _⟩
        · rintro j W1 W2 ⟨h1, h2, h3, h4, h6, h7, h5⟩ ho
          exact ⟨h1, h2, h3.keep ho (fun q hq => by have := hq.1; omega), ho.keep h4 (fun hq => by have := hq.1; omega), ho.keep h6 (fun hq => by have := hq.1; omega), ho.keep h7 (fun hq => by have := hq.1; omega), by have := ho.size; omega⟩
        · rintro c W1 W2 ⟨hc, j, h1, h2, h3, h4, h6, h7, h5⟩ ho
          exact ⟨hc, j, h1, h2, h3.keep ho (fun q hq => by have := hq.1; omega), ho.keep h4 (fun hq => by have := hq.1; omega), ho.keep h6 (fun hq => by have := hq.1; omega), ho.keep h7 (fun hq => by have := hq.1; omega), by have := ho.size; omega⟩
        · rintro l2 j hj Yp Y ⟨-, hjs, h3p, h4p, h6p, h7p, h5p⟩ hoP
          have h3 := h3p.keep hoP (fun q hq => by have := hq.1; omega)
          have h4 := hoP.keep h4p (fun hq => by have := hq.1; omega)
          have h6 := hoP.keep h6p (fun hq => by have := hq.1; omega)
          have h7 := hoP.keep h7p (fun hq => by have := hq.1; omega)
          have h5 : V0.heap.size ≤ Y.heap.size := by have := hoP.size; omega
          obtain ⟨⟨⟨p1, p2⟩, hv⟩, hp⟩ : ∃ p, p = H2[j] := ⟨_, rfl⟩
          have hmem := mem_cells h3.c2 j hj
          rw [← hp] at hmem ⊢
          simp only [encH]
          simp only at hmem
          have hjn : j < n2 := by rw [HN12.out.2]; exact hj
          have HP := Lib.hid hp
          have HA3 := Lib.hid h3
          have HK4 := Lib.hid h4
          have HK6 := Lib.hid (And.intro h6 h7)
          clear hp hmem h3p h4p h6p h7p hoP h3 h4 h6 h7 hit hW0
          gi_wp2
          have oY : Only (fun _ => False) Y (Y.alloc (Obj.cells #[Value.int .i64 p1, Value.int .i64 p2] 62)) := (Only.refl _ _).alloc _
          have hzY : (Y.alloc (Obj.cells #[Value.int .i64 p1, Value.int .i64 p2] 62)).heap.size = Y.heap.size + 1 := by simp
          refine ⟨oY.keptT (fun q hq => ⟨by rcases hq with hq | hq | hq <;> first | exact (show False from hq).elim | omega, id⟩), fun Y2 ho => ?_⟩
          have hA2 := (HA3.out.keep oY (fun _ h => h.elim)).keep ho (fun q hq => by have := hq.1; omega)
          have hk2 := ho.keep (oY.keep HK4.out id) (fun hq => by have := hq.1; omega)
          have h62 := ho.keep (oY.keep HK6.out.1 id) (fun hq => by have := hq.1; omega)
          have h72 := ho.keep (oY.keep HK6.out.2 id) (fun hq => by have := hq.1; omega)
          have kx : Y2.heap[Y.heap.size]? = some (.cells #[.int .i64 p1, .int .i64 p2] 62 (0, 0)) := ho.keep (heap_alloc_new Y _) (fun h => by have := h.2; omega)
          obtain ⟨z0, z1⟩ := two_cells kx
          obtain ⟨q0, q1, q2⟩ := mem_cells hA2.c2 j hj
          rw [← HP.out] at q0 q1 q2
          simp only at q0 q1 q2
          have c12 : Y2.cell? ⟨b + 1, 0, none⟩ = some (.slice (some ⟨rg2, 0, none⟩) n2 cap2) := by
            rw [HN12.out.2, ← (hA2.r2 (by rw [← HN12.out.2]; omega)).2]
            exact cell_of_one hA2.l2
          have c14 := cell_of_one hk2
          have f14 := free_of_one hk2
          have cst := cell_of_one hA2.stop
          have hnj : ¬ (n2 : Int) ≤ (j : Int) := by omega
          have HA2 := Lib.hid hA2
          have HK2 := Lib.hid hk2
          have HK62 := Lib.hid (And.intro h62 h72)
          have hzz := ho.size
          clear hA2 hk2 h62 h72 kx oY ho HA3 HK4 HK6
          gi_wp2
          have hdj : decide (n2 ≤ j) = false := by simp; omega
          refine wpIn_round_mixed [0, 1, 2, 3, 4, 5, 6, 7, 8, 9, 10, 11, 12, 13, 14, 15, 16, 17, 18, 19, 20, 21, 22, 23, 24, 25, 26, 27, 28, 29, 30, 31] 32 [] (by kernel_rfl) (by kernel_rfl) ?_
          simp only [pick, consO, List.getElem?_toArray, List.getElem?_cons_succ, List.getElem?_cons_zero]
          iterate 32 (go_big_quiet_step (fail))
          refine wpQuiet_nil ?_
          rintro _ ⟨nq, rfl⟩
          have fin : ∀ Y4, Y4 = (Y2.drewN nq).setCell ⟨bj, 0, none⟩ (.int .i64 ((j : Int) + 1)) → KeptT (prot (fun _ => False) w10.heap.size V0.heap.size Yp.heap.size Y.heap.size) Y2 Y4 ∧ AllB w Y4 b st xb k rg1 rg2 ao1 ao2 cap1 cap2 S (onL L) H1 H2 ∧ Y4.heap[bj]? = some (.cells #[.int .i64 ((j + 1 : Nat) : Int)] 3 (0, 0)) ∧ (Y4.heap[b + 1 + 1]? = some (.cells #[.int .i64 i1] 3 (0, 0)) ∧ Y4.heap[Dm]? = some (.deferred (some []))) ∧ V0.heap.size ≤ Y4.heap.size := by
            intro Y4 hY4
            have oS : Only (fun q => q = bj) Y2 Y4 := by rw [hY4]; exact Only.setAt ((Only.refl _ _).drewN nq) 0 _
            refine ⟨oS.keptT (fun q hq => ?_), HA2.out.keep oS (fun q hq => by have e : q = bj := hq; omega), ?_, ⟨oS.keep HK62.out.1 (fun e => by have e' : b + 1 + 1 = bj := e; omega), oS.keep HK62.out.2 (fun e => by have e' : Dm = bj := e; omega)⟩, by have := oS.size; omega⟩
            · rcases hq with hq | hq | hq
              · exact (show False from hq).elim
              · exact ⟨by omega, fun e => by have e' : q = bj := e; omega⟩
              · exact ⟨by omega, fun e => by have e' : q = bj := e; omega⟩
            · rw [hY4]
              have h9 := one_setCell (w := Y2.drewN nq) (u := .int .i64 ((j : Int) + 1)) HK2.out
              rw [show ((j + 1 : Nat) : Int) = (j : Int) + 1 by omega]
              exact h9
          have cst2 := cell_of_one (fin _ rfl).2.1.stop
          have FIN := Lib.hid fin
          clear fin q0 q1 q2 z0 z1 c12 HA2 HP
          by_cases hs0 : 0 < st
          · have hs0' : (0 : Int) < (st : Int) := by omega
            by_cases hsj : st ≤ j + 1
            · have hsj' : (st : Int) ≤ (j : Int) + 1 := by omega
              gi_wp2
              obtain ⟨f1, f2, f3, f5, f4⟩ := FIN.out _ rfl
              exact ⟨f1, rfl, j + 1, by omega, by have := hjs hs0; omega, f2, f3, f5.1, f5.2, f4⟩
            · have hsj' : ¬ (st : Int) ≤ (j : Int) + 1 := by omega
              gi_wp2
              obtain ⟨f1, f2, f3, f5, f4⟩ := FIN.out _ rfl
              exact ⟨f1, by omega, by omega, f2, f3, f5.1, f5.2, f4⟩
          · have hs0' : ¬ (0 : Int) < (st : Int) := by omega
            have hsj' : (st : Int) ≤ (j : Int) + 1 := by omega
            gi_wp2
            obtain ⟨f1, f2, f3, f5, f4⟩ := FIN.out _ rfl
            exact ⟨f1, by omega, f2, f3, f5.1, f5.2, f4⟩
        case' refine_5 =>
          rintro Dn W9 hE1 hE2 ⟨-, -, hA9, h4, h6, h7, hB9⟩ hK2
          obtain ⟨j1, hj1⟩ : ∃ j1, j1 = H2.length := ⟨_, rfl⟩
          rw [← hj1] at h4
          have HJ1 := Lib.hid (show j1 = n2 ∨ j1 = st from .inl (by rw [hj1, HN12.out.2]))
          clear hj1
        case' refine_6 =>
          rintro c Dn W9 hE1 hE2 ⟨rfl, j1, hjb', hj1, hA9, h4, h6, h7, hB9⟩ hK2
          have HJ1 := Lib.hid (show j1 = n2 ∨ j1 = st from .inr hj1)
          clear hj1 hjb'
        all_goals
          have HW9 := Lib.hid hA9
          have hres9 := hA9.res
          have c14 := cell_of_one h6
          have c17 := cell_of_one h4
          have c12 : W9.cell? ⟨b, 0, none⟩ = some (.slice ao1 n1 cap1) := by rw [HN12.out.1]; exact cell_of_one hA9.l1
          have c13 : W9.cell? ⟨b + 1, 0, none⟩ = some (.slice ao2 n2 cap2) := by rw [HN12.out.2]; exact cell_of_one hA9.l2
          have cst := cell_of_one hA9.stop
          have cres := cell_of_one hres9
          have fres := free_of_one hres9
          have HKM := Lib.hid (And.intro h7 hK2)
          clear hA9 hres9 h4 h6 h7 hK2 hit hW0
          have last : ∀ W10, W10 = W9.setCell ⟨w.heap.size + 1, 0, none⟩ (.bool true) → ∀ tmps, tmps.getD 6 undef = .pointer (some ⟨w.heap.size + 1, 0, none⟩) → LeavesInM Fence.wide 0 Try.prog Try.f11 tmps (fun e W' => e = .returned (.bool true) ∧ Only (fun _ => False) w W') [{ target := .collected Dn, args := #[] }, { target := .collected Dm, args := #[] }] .returning W10 := by
            intro W10 hW10 tmps ht
            have hbl9 := HW9.out.blt
            have oR : Only (fun q => q = w.heap.size + 1) W9 W10 := by rw [hW10]; exact Only.setAt (Only.refl _ _) 0 _
            have hr10 : W10.heap[w.heap.size + 1]? = some (.cells #[.bool true] 4 (0, 0)) := by rw [hW10]; exact one_setCell HW9.out.res
            have hk2 := oR.keep HKM.out.2 (fun e => by have e' : Dn = w.heap.size + 1 := e; omega)
            have hk1 := oR.keep HKM.out.1 (fun e => by have e' : Dm = w.heap.size + 1 := e; omega)
            refine ⟨by simp, .inl ⟨_, _, rfl, run_takeDeferred hk2, ?_⟩⟩
            have p1 : Only (fun q => q = Dn) W10 (W10.putObj Dn (.deferred none)) := only_putObj (Only.refl _ _) _ _ (.inl rfl)
            refine ⟨by simp, .inl ⟨_, _, rfl, run_takeDeferred (p1.keep hk1 (by omega)), ?_⟩⟩
            have p2 : Only (fun q => q = Dm) (W10.putObj Dn (.deferred none)) ((W10.putObj Dn (.deferred none)).putObj Dm (.deferred none)) := only_putObj (Only.refl _ _) _ _ (.inl rfl)
            have hr12 := p2.keep (p1.keep hr10 (fun e => by have e' : w.heap.size + 1 = Dn := e; omega)) (fun e => by have e' : w.heap.size + 1 = Dm := e; omega)
            exact ⟨_, results_cell_one rfl _ _ ⟨w.heap.size + 1, 0, none⟩ _ _ ht (cell_of_one hr12) Try.underlying4 rfl, rfl, ((HW9.out.only.trans oR (fun j hj e => by omega)).trans p1 (fun j hj e => by omega)).trans p2 (fun j hj e => by omega)⟩
          have LAST := Lib.hid last
          clear last
          by_cases hi : i1 = n1
          · by_cases hj : j1 = n2
            · have hi' : ((i1 : Int) == (n1 : Int)) = true := by simp [hi]
              have hj' : ((j1 : Int) == (n2 : Int)) = true := by simp [hj]
              clear hi hj
              go_wp2
              exact LAST.out _ rfl _ rfl
            · have hst' : j1 = st := by rcases HJ1.out with h | h; exact absurd h hj; exact h
              have hi' : ((i1 : Int) == (n1 : Int)) = true := by simp [hi]
              have hj' : ((j1 : Int) == (n2 : Int)) = false := by simp; omega
              have hs' : ((j1 : Int) == (st : Int)) = true := by simp [hst']
              clear hi hj hst'
              go_wp2
              exact LAST.out _ rfl _ rfl
          · have hst1 : i1 = st := by rcases HI1.out with h | h; exact absurd h hi; exact h
            have hi' : ((i1 : Int) == (n1 : Int)) = false := by simp; omega
            have hs1 : ((i1 : Int) == (st : Int)) = true := by simp [hst1]
            by_cases hj : j1 = n2
            · have hj' : ((j1 : Int) == (n2 : Int)) = true := by simp [hj]
              clear hi hj hst1
              go_wp2
              exact LAST.out _ rfl _ rfl
            · have hst' : j1 = st := by rcases HJ1.out with h | h; exact absurd h hj; exact h
              have hj' : ((j1 : Int) == (n2 : Int)) = false := by simp; omega
              have hs' : ((j1 : Int) == (st : Int)) = true := by simp [hst']
              clear hi hj hst' hst1
              go_wp2
              exact LAST.out _ rfl _ rfl

end Go.Proofs.Ytflcdbefakjcbaa
