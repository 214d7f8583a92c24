/- The walk of the law HeapAll. -/
import Derived.Test.YtnhiohgcoifniaaS7
import Derived.Test.YtnhiohgcoifniaaReadB
import Derived.Test.YtnhiohgcoifniaaK1
namespace Go.Proofs.Ytnhiohgcoifniaa
open Go.RowKit Go.Gav Go.BigFrame Go.Shelf
attribute [local go_sem] Oper.semAt_some

theorem hp_setc {w : World} {p q : Addr} {v : Value} (h : w.cell? p = some v) (hne : p.block ≠ q.block) (u : Value) : (w.setCell q u).cell? p = some v :=
  (World.cell?_of_block (Below.heap_setCell _ _ _ _ hne)).trans h

theorem doS_set {S : List En} {d : Int} {x : En} (h : d % 8 < 4) : doS S d x = setS S x := by unfold doS; rw [if_pos h]
theorem doS_del {S : List En} {d : Int} {x : En} (h : d % 8 = 4) : doS S d x = delS S x.1 := by unfold doS; rw [if_neg (by omega), if_pos h]
theorem doS_pop {S : List En} {d : Int} {x : En} (h : d % 8 = 6) : doS S d x = S.tail := by unfold doS; rw [if_neg (by omega), if_neg (by omega), if_pos h]
theorem doS_not {S : List En} {d : Int} {x : En} (h : ¬ d % 8 < 4) (h4 : d % 8 ≠ 4) (h6 : d % 8 ≠ 6) : doS S d x = S := by unfold doS; rw [if_neg h, if_neg h4, if_neg h6]

set_option maxRecDepth 100000 in
set_option maxHeartbeats 8000000 in
theorem all_walk (a : Option Addr) (len cap : Nat) (D : Nat → Int) (X : Nat → Int × Int) (st : Int) (hst0 : 0 ≤ st) (hst1 : st ≤ 255) (w : World) (hl : IsActs w a len D X) (hlen : len ≤ 200) :
    Calls Try.prog 7 #[.slice a len cap, .int .u8 st] w fun e w' => e = .returned (.bool true) ∧ Only (fun _ => False) w w' := by
  have HL := Lib.hid hl
  clear hl
  have hg1 : ¬ ((len : Int) > 200) := by omega
  refine callsIn_wide.1 (callsIn_of_wp_marks (F := Fence.wide) (n := 0) Try.func7 rfl trivial ?_)
  simp only [Try.ntmps7, List.size_toArray, List.length_cons, List.length_nil, Nat.reduceAdd, Nat.reduceSub, Array.replicate_succ, Array.replicate_zero, List.push_toArray, List.append_toArray, List.nil_append, List.cons_append]
  refine wpIn_wide.2 ?_
  go_wp2_with (fail)
  have oA : Only (fun _ => False) w ((w.alloc (Obj.cells #[Value.int IntKind.u8 st] 5)).alloc (Obj.cells #[Value.bool false] 4)) := ((Only.refl _ _).alloc _).alloc _
  refine (awake_true _).mono ?_
  rintro _ w1 ⟨rfl, o1⟩
  have k3 : w1.heap[w.heap.size]? = some (.cells #[.int .u8 st] 5 (0, 0)) := o1.keep (hp_alloc (heap_alloc_new w _) _) id
  have k4 : w1.heap[w.heap.size + 1]? = some (.cells #[.bool false] 4 (0, 0)) := o1.keep (heap_alloc2_new w _ _) id
  have K1 := Lib.hid (And.intro k3 k4)
  have O1 := Lib.hid (oA.trans o1 (fun _ _ h => h))
  have hsz1 : w.heap.size + 2 ≤ w1.heap.size := by have := o1.size; simp at this; omega
  clear o1 oA k3 k4
  go_wp2_with (fail)
  refine (h_new _).mono ?_
  rintro e w2 ⟨hb, l0, mb, rfl, h2, b1, b2, b3, o2⟩
  obtain ⟨mc, hmc⟩ : ∃ mc, mc = w2.heap.size := ⟨_, rfl⟩
  have hlt2 := h2.lts
  have oM : Only (fun _ => False) w2 (w2.alloc (Obj.cells #[Value.slice none 0 0] 27)) := (Only.refl _ _).alloc _
  have H2 := Lib.hid (h2.only oM id id id)
  have KM : Hid ((w2.alloc (Obj.cells #[Value.slice none 0 0] 27)).heap[mc]? = some (.cells #[.slice none 0 0] 27 (0, 0))) := by rw [hmc]; exact heap_alloc_new _ _
  have O2 := Lib.hid (o2.trans oM (fun _ _ h => h))
  have hszM := o2.size
  have HB : Hid (w1.heap.size ≤ hb ∧ w1.heap.size ≤ mb ∧ w1.heap.size ≤ mc ∧ hb < mc ∧ mb < mc ∧ w.heap.size + 2 ≤ w1.heap.size) := ⟨by omega, by omega, by omega, by omega, by omega, by omega⟩
  have hl0 : w1.heap.size ≤ l0 := by omega
  have hlm : l0 < mc := by omega
  clear h2 o2 b1 b2 b3 hlt2 oM hsz1 hszM
  go_wp2
  rw [← hmc]
  generalize w2.alloc (Obj.cells #[Value.slice none 0 0] 27) = w3 at *
  clear hmc
  go_loopw [7] (fun vi wr => ∃ (i lb rb n : Nat) (ao : Option Addr) (cp : Nat) (S : List En), vi = .int .i64 i ∧ i ≤ len ∧ HRep wr hb lb mb S ∧ ReadB wr rb (.slice ao n cp) S ∧ n = S.length ∧ S.length ≤ i ∧ wr.heap[mc]? = some (.cells #[.slice ao n cp] 27 (0, 0)) ∧ w1.heap.size ≤ lb ∧ lb ≠ mc ∧ (0 < S.length → w1.heap.size ≤ rb ∧ rb ≠ hb ∧ rb ≠ lb ∧ rb ≠ mb ∧ rb ≠ mc) ∧ Only (fun _ => False) w1 wr)
    (fun vi _ => len - (intOf vi).toNat)
  case atStart => exact ⟨0, l0, 0, 0, none, 0, [], rfl, Nat.zero_le _, H2.out, ⟨none, 0, rfl, Nat.le_refl _, fun h => by simp at h⟩, rfl, Nat.le_refl _, KM.out, hl0, by omega, fun h => by simp at h, O2.out⟩
  case round =>
    clear H2 O2 KM hl0 hlm
    obtain ⟨i, lb, rb, n, ao, cp, S, rfl, hi, hr, hm, hn, hs, hkm, hlb, hlm, hf, ho⟩ := hrel
    have HR := Lib.hid hr
    have HM := Lib.hid hm
    have HF := Lib.hid hf
    have HO := Lib.hid ho
    have HKM := Lib.hid hkm
    have HN := Lib.hid hn
    clear hr hm hf ho hkm hn
    by_cases hlt : i < len
    · obtain ⟨bb, off, rfl, hc⟩ := HL.out (by omega)
      obtain ⟨d0, x0, y0, dlo, dhi, hkx⟩ := hc i hlt
      have ow1 := O1.out
      have e0 := HO.out.cell (ow1.cell d0 id) id
      have e1 := HO.out.cell (ow1.cell x0 id) id
      have e2 := HO.out.cell (ow1.cell y0 id) id
      clear d0 x0 y0 hc ow1
      obtain ⟨⟨kx, bx⟩, hxi⟩ : ∃ xi, xi = X i := ⟨_, rfl⟩
      rw [← hxi] at e1 e2 hkx
      simp only at e1 e2 hkx
      clear hxi
      have oq : Only (fun _ => False) wr (wr.alloc (.cells #[.int .u8 (D i), .int .i64 kx, .int .i64 bx] 29)) := (Only.refl _ _).alloc _
      have HR2 := Lib.hid (HR.out.only oq id id id)
      have HM2 := Lib.hid (HM.out.only oq (fun _ => id))
      have HO2 := Lib.hid (HO.out.trans oq (fun _ _ h => h))
      have HKM2 := Lib.hid (oq.keep HKM.out id)
      have hlts := HR.out.lts
      have hmlt : mc < wr.heap.size := lt_of_block HKM.out
      have HXB : Hid ((wr.alloc (.cells #[.int .u8 (D i), .int .i64 kx, .int .i64 bx] 29)).heap[wr.heap.size]? = some (.cells #[.int .u8 (D i), .int .i64 kx, .int .i64 bx] 29 (0, 0))) := heap_alloc_new _ _
      clear oq HR HM HO HKM
      go_wp2_with (fail)
      refine (h_done hb lb mb S (D i) kx bx dlo dhi hkx _ HR2.out (by omega)).mono ?_
      rintro e w4 ⟨rfl, lb4, h4, g4, o4⟩
      have H4 := Lib.hid h4
      have hlen4 := doS_length S (D i) (kx, bx)
      have hsz0 : (wr.alloc (.cells #[.int .u8 (D i), .int .i64 kx, .int .i64 bx] 29)).heap.size = wr.heap.size + 1 := by simp
      have hb0 := HB.out
      have O4 : Hid (Only (fun _ => False) w1 w4) := HO2.out.trans o4 (fun j hj h => by omega)
      have L4 : w1.heap.size ≤ lb4 ∧ lb4 ≠ mc := by
        rcases g4 with g4 | g4
        · rw [g4]; exact ⟨hlb, hlm⟩
        · omega
      have M4 := Lib.hid (HM2.out.only o4 (fun hp h => by have := HF.out hp; omega))
      have KM4 := Lib.hid (o4.keep HKM2.out (fun h => by omega))
      have kx4 := o4.keep HXB.out (fun h => by omega)
      obtain ⟨c0, c1, c2⟩ := three_cells kx4
      have cm := cell_of_one KM4.out
      have fm := free_of_one KM4.out
      have hlts4 := h4.lts
      have F4 : Hid (0 < S.length → w1.heap.size ≤ rb ∧ rb ≠ hb ∧ rb ≠ lb4 ∧ rb ≠ mb ∧ rb ≠ mc) := fun hp => by
        have h1 := HF.out hp
        have h2 := HM2.out.lt hp
        refine ⟨h1.1, h1.2.1, ?_, h1.2.2.2⟩
        rcases g4 with g4 | g4
        · rw [g4]; exact h1.2.2.1
        · omega
      have h8 : D i % 8 = 0 ∨ D i % 8 = 1 ∨ D i % 8 = 2 ∨ D i % 8 = 3 ∨ D i % 8 = 4 ∨ D i % 8 = 5 ∨ D i % 8 = 6 ∨ D i % 8 = 7 := by omega
      clear e0 e1 e2 h4 g4 o4 HR2 HM2 HO2 HKM2 HXB hsz0 hlts kx4 HF hb0
      rcases h8 with h8 | h8 | h8 | h8 | h8 | h8 | h8 | h8
      · go_wp2_with (fail)
        refine (ref_set _ rb S kx bx _ M4.out.e (by omega)).mono ?_
        rintro e w5 ⟨v5, rfl, m5, o5⟩
        obtain ⟨rb5, hrb5, m5'⟩ := m5.b
        obtain ⟨S5, hS5⟩ : ∃ S5, S5 = setS S (kx, bx) := ⟨_, rfl⟩
        rw [doS_set (by omega), ← hS5] at H4
        rw [doS_set (by omega), ← hS5] at hlen4
        rw [← hS5] at m5'
        obtain ⟨ao5, cp5, rfl, hcp5, -⟩ := id m5'
        obtain ⟨n5, hn5⟩ : ∃ n5, n5 = S5.length := ⟨_, rfl⟩
        rw [← hn5] at m5' hcp5
        rw [← hn5]
        have HN5 := Lib.hid hn5
        have H5 := Lib.hid (H4.out.only o5 id id id)
        have M5 := Lib.hid m5'
        have O5 := Lib.hid (O4.out.trans o5 (fun _ _ h => h))
        have km5 := o5.keep KM4.out id
        have KM5 := Lib.hid km5
        have cm := cell_of_one km5
        have fm := free_of_one km5
        have hb1 := HB.out
        have hmlt4 : mc < w4.heap.size := lt_of_block KM4.out
        have F5 : Hid (0 < S5.length → w1.heap.size ≤ rb5 ∧ rb5 ≠ hb ∧ rb5 ≠ lb4 ∧ rb5 ≠ mb ∧ rb5 ≠ mc) := fun _ => by omega
        have HLN : Hid (S5.length ≤ i + 1) := by show _ ≤ _; omega
        clear m5 m5' o5 hS5 hrb5 H4 O4 M4 KM4 F4 km5 hn5 hb1 hlts4 hcp5 hlen4 HN
        go_wp2_with (fail)
        have ow : Only (fun k => k = mc) w5 (w5.setCell ⟨mc, 0, none⟩ (.slice ao5 n5 cp5)) := Only.setAt (Only.refl _ w5) 0 _
        have hb1 := HB.out
        go_roundw
        case rel => exact ⟨i + 1, lb4, rb5, n5, ao5, cp5, S5, by go_num, by omega, H5.out.only ow (by omega) (by omega) (by omega), M5.out.only ow (fun hp => (F5.out hp).2.2.2.2), HN5.out, HLN.out, one_setCell KM5.out, L4.1, L4.2, F5.out, O5.out.trans ow (fun j hj h => by omega)⟩
        case measure => simp [intOf]; omega
      · go_wp2_with (fail)
        refine (ref_set _ rb S kx bx _ M4.out.e (by omega)).mono ?_
        rintro e w5 ⟨v5, rfl, m5, o5⟩
        obtain ⟨rb5, hrb5, m5'⟩ := m5.b
        obtain ⟨S5, hS5⟩ : ∃ S5, S5 = setS S (kx, bx) := ⟨_, rfl⟩
        rw [doS_set (by omega), ← hS5] at H4
        rw [doS_set (by omega), ← hS5] at hlen4
        rw [← hS5] at m5'
        obtain ⟨ao5, cp5, rfl, hcp5, -⟩ := id m5'
        obtain ⟨n5, hn5⟩ : ∃ n5, n5 = S5.length := ⟨_, rfl⟩
        rw [← hn5] at m5' hcp5
        rw [← hn5]
        have HN5 := Lib.hid hn5
        have H5 := Lib.hid (H4.out.only o5 id id id)
        have M5 := Lib.hid m5'
        have O5 := Lib.hid (O4.out.trans o5 (fun _ _ h => h))
        have km5 := o5.keep KM4.out id
        have KM5 := Lib.hid km5
        have cm := cell_of_one km5
        have fm := free_of_one km5
        have hb1 := HB.out
        have hmlt4 : mc < w4.heap.size := lt_of_block KM4.out
        have F5 : Hid (0 < S5.length → w1.heap.size ≤ rb5 ∧ rb5 ≠ hb ∧ rb5 ≠ lb4 ∧ rb5 ≠ mb ∧ rb5 ≠ mc) := fun _ => by omega
        have HLN : Hid (S5.length ≤ i + 1) := by show _ ≤ _; omega
        clear m5 m5' o5 hS5 hrb5 H4 O4 M4 KM4 F4 km5 hn5 hb1 hlts4 hcp5 hlen4 HN
        go_wp2_with (fail)
        have ow : Only (fun k => k = mc) w5 (w5.setCell ⟨mc, 0, none⟩ (.slice ao5 n5 cp5)) := Only.setAt (Only.refl _ w5) 0 _
        have hb1 := HB.out
        go_roundw
        case rel => exact ⟨i + 1, lb4, rb5, n5, ao5, cp5, S5, by go_num, by omega, H5.out.only ow (by omega) (by omega) (by omega), M5.out.only ow (fun hp => (F5.out hp).2.2.2.2), HN5.out, HLN.out, one_setCell KM5.out, L4.1, L4.2, F5.out, O5.out.trans ow (fun j hj h => by omega)⟩
        case measure => simp [intOf]; omega
      · go_wp2_with (fail)
        refine (ref_set _ rb S kx bx _ M4.out.e (by omega)).mono ?_
        rintro e w5 ⟨v5, rfl, m5, o5⟩
        obtain ⟨rb5, hrb5, m5'⟩ := m5.b
        obtain ⟨S5, hS5⟩ : ∃ S5, S5 = setS S (kx, bx) := ⟨_, rfl⟩
        rw [doS_set (by omega), ← hS5] at H4
        rw [doS_set (by omega), ← hS5] at hlen4
        rw [← hS5] at m5'
        obtain ⟨ao5, cp5, rfl, hcp5, -⟩ := id m5'
        obtain ⟨n5, hn5⟩ : ∃ n5, n5 = S5.length := ⟨_, rfl⟩
        rw [← hn5] at m5' hcp5
        rw [← hn5]
        have HN5 := Lib.hid hn5
        have H5 := Lib.hid (H4.out.only o5 id id id)
        have M5 := Lib.hid m5'
        have O5 := Lib.hid (O4.out.trans o5 (fun _ _ h => h))
        have km5 := o5.keep KM4.out id
        have KM5 := Lib.hid km5
        have cm := cell_of_one km5
        have fm := free_of_one km5
        have hb1 := HB.out
        have hmlt4 : mc < w4.heap.size := lt_of_block KM4.out
        have F5 : Hid (0 < S5.length → w1.heap.size ≤ rb5 ∧ rb5 ≠ hb ∧ rb5 ≠ lb4 ∧ rb5 ≠ mb ∧ rb5 ≠ mc) := fun _ => by omega
        have HLN : Hid (S5.length ≤ i + 1) := by show _ ≤ _; omega
        clear m5 m5' o5 hS5 hrb5 H4 O4 M4 KM4 F4 km5 hn5 hb1 hlts4 hcp5 hlen4 HN
        go_wp2_with (fail)
        have ow : Only (fun k => k = mc) w5 (w5.setCell ⟨mc, 0, none⟩ (.slice ao5 n5 cp5)) := Only.setAt (Only.refl _ w5) 0 _
        have hb1 := HB.out
        go_roundw
        case rel => exact ⟨i + 1, lb4, rb5, n5, ao5, cp5, S5, by go_num, by omega, H5.out.only ow (by omega) (by omega) (by omega), M5.out.only ow (fun hp => (F5.out hp).2.2.2.2), HN5.out, HLN.out, one_setCell KM5.out, L4.1, L4.2, F5.out, O5.out.trans ow (fun j hj h => by omega)⟩
        case measure => simp [intOf]; omega
      · go_wp2_with (fail)
        refine (ref_set _ rb S kx bx _ M4.out.e (by omega)).mono ?_
        rintro e w5 ⟨v5, rfl, m5, o5⟩
        obtain ⟨rb5, hrb5, m5'⟩ := m5.b
        obtain ⟨S5, hS5⟩ : ∃ S5, S5 = setS S (kx, bx) := ⟨_, rfl⟩
        rw [doS_set (by omega), ← hS5] at H4
        rw [doS_set (by omega), ← hS5] at hlen4
        rw [← hS5] at m5'
        obtain ⟨ao5, cp5, rfl, hcp5, -⟩ := id m5'
        obtain ⟨n5, hn5⟩ : ∃ n5, n5 = S5.length := ⟨_, rfl⟩
        rw [← hn5] at m5' hcp5
        rw [← hn5]
        have HN5 := Lib.hid hn5
        have H5 := Lib.hid (H4.out.only o5 id id id)
        have M5 := Lib.hid m5'
        have O5 := Lib.hid (O4.out.trans o5 (fun _ _ h => h))
        have km5 := o5.keep KM4.out id
        have KM5 := Lib.hid km5
        have cm := cell_of_one km5
        have fm := free_of_one km5
        have hb1 := HB.out
        have hmlt4 : mc < w4.heap.size := lt_of_block KM4.out
        have F5 : Hid (0 < S5.length → w1.heap.size ≤ rb5 ∧ rb5 ≠ hb ∧ rb5 ≠ lb4 ∧ rb5 ≠ mb ∧ rb5 ≠ mc) := fun _ => by omega
        have HLN : Hid (S5.length ≤ i + 1) := by show _ ≤ _; omega
        clear m5 m5' o5 hS5 hrb5 H4 O4 M4 KM4 F4 km5 hn5 hb1 hlts4 hcp5 hlen4 HN
        go_wp2_with (fail)
        have ow : Only (fun k => k = mc) w5 (w5.setCell ⟨mc, 0, none⟩ (.slice ao5 n5 cp5)) := Only.setAt (Only.refl _ w5) 0 _
        have hb1 := HB.out
        go_roundw
        case rel => exact ⟨i + 1, lb4, rb5, n5, ao5, cp5, S5, by go_num, by omega, H5.out.only ow (by omega) (by omega) (by omega), M5.out.only ow (fun hp => (F5.out hp).2.2.2.2), HN5.out, HLN.out, one_setCell KM5.out, L4.1, L4.2, F5.out, O5.out.trans ow (fun j hj h => by omega)⟩
        case measure => simp [intOf]; omega
      · go_wp2_with (fail)
        refine (ref_del _ rb S kx _ M4.out.e (by omega)).mono ?_
        rintro e w5 ⟨v5, rfl, m5, o5⟩
        obtain ⟨rb5, hrb5, m5'⟩ := m5.b
        obtain ⟨S5, hS5⟩ : ∃ S5, S5 = delS S kx := ⟨_, rfl⟩
        rw [doS_del (by omega), ← hS5] at H4
        rw [doS_del (by omega), ← hS5] at hlen4
        rw [← hS5] at m5'
        obtain ⟨ao5, cp5, rfl, hcp5, -⟩ := id m5'
        obtain ⟨n5, hn5⟩ : ∃ n5, n5 = S5.length := ⟨_, rfl⟩
        rw [← hn5] at m5' hcp5
        rw [← hn5]
        have HN5 := Lib.hid hn5
        have H5 := Lib.hid (H4.out.only o5 id id id)
        have M5 := Lib.hid m5'
        have O5 := Lib.hid (O4.out.trans o5 (fun _ _ h => h))
        have km5 := o5.keep KM4.out id
        have KM5 := Lib.hid km5
        have cm := cell_of_one km5
        have fm := free_of_one km5
        have hb1 := HB.out
        have hmlt4 : mc < w4.heap.size := lt_of_block KM4.out
        have F5 : Hid (0 < S5.length → w1.heap.size ≤ rb5 ∧ rb5 ≠ hb ∧ rb5 ≠ lb4 ∧ rb5 ≠ mb ∧ rb5 ≠ mc) := fun _ => by omega
        have HLN : Hid (S5.length ≤ i + 1) := by show _ ≤ _; omega
        clear m5 m5' o5 hS5 hrb5 H4 O4 M4 KM4 F4 km5 hn5 hb1 hlts4 hcp5 hlen4 HN
        go_wp2_with (fail)
        have ow : Only (fun k => k = mc) w5 (w5.setCell ⟨mc, 0, none⟩ (.slice ao5 n5 cp5)) := Only.setAt (Only.refl _ w5) 0 _
        have hb1 := HB.out
        go_roundw
        case rel => exact ⟨i + 1, lb4, rb5, n5, ao5, cp5, S5, by go_num, by omega, H5.out.only ow (by omega) (by omega) (by omega), M5.out.only ow (fun hp => (F5.out hp).2.2.2.2), HN5.out, HLN.out, one_setCell KM5.out, L4.1, L4.2, F5.out, O5.out.trans ow (fun j hj h => by omega)⟩
        case measure => simp [intOf]; omega
      · go_wp2_with (fail)
        go_roundw
        case rel => exact ⟨i + 1, lb4, rb, n, ao, cp, S, by go_num, by omega, by have := H4.out; rwa [doS_not (by omega) (by omega) (by omega)] at this, M4.out, HN.out, by omega, KM4.out, L4.1, L4.2, F4.out, O4.out⟩
        case measure => simp [intOf]; omega
      · have H4' := H4.out
        rw [doS_pop (by omega)] at H4'
        cases S with
        | nil =>
          have hn0 : n = 0 := HN.out
          subst hn0
          go_wp2_with (fail)
          go_roundw
          case rel => exact ⟨i + 1, lb4, rb, 0, ao, cp, [], by go_num, by omega, H4', M4.out, rfl, Nat.zero_le _, KM4.out, L4.1, L4.2, F4.out, O4.out⟩
          case measure => simp [intOf]; omega
        | cons x xs =>
          obtain ⟨n5, hn5⟩ : ∃ n5, n5 = xs.length := ⟨_, rfl⟩
          have hn6 : n = n5 + 1 := by rw [HN.out, hn5]; rfl
          subst hn6
          obtain ⟨off2, hao, key⟩ : ∃ off2, ao = some ⟨rb, off2, none⟩ ∧ (n5 + 1 ≤ cp ∧ ∀ cp', n5 ≤ cp' → ∀ off', (0 < n5 → off' = off2 + 2) → ReadB w4 rb (.slice (some ⟨rb, off', none⟩) n5 cp') xs) := by
            obtain ⟨ao', cq, hv, hcq, h0⟩ := M4.out
            obtain ⟨off3, he, hr⟩ := h0 (by simp)
            cases hv
            cases he
            refine ⟨off3, rfl, hcq, fun cp' hcp' off' ho' => ?_⟩
            rw [hn5] at hcp' ho' ⊢
            refine ⟨_, cp', rfl, hcp', fun hp => ⟨off', rfl, fun j hj => ?_⟩⟩
            have := hr (j + 1) (by simp; omega)
            rw [ho' hp]
            rw [show off3 + 2 + j * 2 = off3 + (j + 1) * 2 by omega]
            simpa [atE] using this
          subst hao
          have hcp := key.1
          have KEY := Lib.hid key.2
          have HN5 := Lib.hid hn5
          have H5 : Hid (HRep w4 hb lb4 mb xs) := H4'
          have hF := F4.out (by simp)
          have F5 : Hid (0 < xs.length → w1.heap.size ≤ rb ∧ rb ≠ hb ∧ rb ≠ lb4 ∧ rb ≠ mb ∧ rb ≠ mc) := fun _ => hF
          have hs5 : n5 ≤ i + 1 := by simp at hs; omega
          clear H4' H4 M4 hn5 key HN hlen4 F4 hlts4
          by_cases hc1 : cp = 1
          · subst hc1
            have hn0 : n5 = 0 := by omega
            subst hn0
            go_wp2_with (fail)
            have ow : ∀ u, Only (fun k => k = mc) w4 (w4.setCell ⟨mc, 0, none⟩ u) := fun u => Only.setAt (Only.refl _ w4) 0 _
            have hb1 := HB.out
            go_roundw
            case rel => exact ⟨i + 1, lb4, rb, 0, _, _, xs, by go_num, by omega, H5.out.only (ow _) (by omega) (by omega) (by omega), (KEY.out 0 (Nat.le_refl _) off2 (fun h => absurd h (Nat.lt_irrefl 0))).only (ow _) (fun hp => (F5.out hp).2.2.2.2), HN5.out, by rw [← HN5.out]; omega, one_setCell KM4.out, L4.1, L4.2, F5.out, O4.out.trans (ow _) (fun j hj h => by omega)⟩
            case measure => simp [intOf]; omega
          · go_wp2_with (fail)
            have ow : ∀ u, Only (fun k => k = mc) w4 (w4.setCell ⟨mc, 0, none⟩ u) := fun u => Only.setAt (Only.refl _ w4) 0 _
            have hb1 := HB.out
            go_roundw
            case rel => exact ⟨i + 1, lb4, rb, n5, _, _, xs, by go_num, by omega, H5.out.only (ow _) (by omega) (by omega) (by omega), (KEY.out (cp - 1) (by omega) (off2 + 2) (fun _ => rfl)).only (ow _) (fun hp => (F5.out hp).2.2.2.2), HN5.out, by rw [← HN5.out]; omega, one_setCell KM4.out, L4.1, L4.2, F5.out, O4.out.trans (ow _) (fun j hj h => by omega)⟩
            case measure => simp [intOf]; omega
      · go_wp2_with (fail)
        go_roundw
        case rel => exact ⟨i + 1, lb4, rb, n, ao, cp, S, by go_num, by omega, by have := H4.out; rwa [doS_not (by omega) (by omega) (by omega)] at this, M4.out, HN.out, by omega, KM4.out, L4.1, L4.2, F4.out, O4.out⟩
        case measure => simp [intOf]; omega
    · skip
      obtain rfl : i = len := by omega
      go_wp2_with (fail)
      refine (all_call _ _).mono ?_
      rintro _ wA ⟨rfl, hwA⟩
      have oA : Only (fun _ => False) wr wA := by rw [hwA]; exact (Only.refl _ _).alloc _
      have kA : wA.cell? ⟨wr.heap.size, 0, none⟩ = some (.pointer (some ⟨hb, 0, none⟩)) := by rw [hwA]; exact cell_of_one (heap_alloc_new wr _)
      have HRA := Lib.hid (HR.out.only oA id id id)
      have hit := hall_iter wr.heap.size hb lb mb S wA kA HRA.out
      have HMA := Lib.hid (HM.out.only oA (fun _ => id))
      have HKA := Lib.hid (oA.keep HKM.out id)
      have HOA := Lib.hid (HO.out.trans oA (fun _ _ h => h))
      clear hwA oA kA HR HM HO HKM
      go_wp2_with (fail)
      refine (collect 33 _ S wA (enters_of Try.func33 (by kernel_rfl) rfl) hit (by omega)).mono ?_
      rintro _ wB ⟨vB, rfl, hown, oB⟩
      obtain ⟨ao2, cap2, rfl, hce2, hbk2⟩ := owns_cells hown
      have HCE := Lib.hid hce2
      have HGE := Lib.hid (show ∀ k, ao2 = some ⟨k, 0, none⟩ → wA.heap.size ≤ k ∧ k < wB.heap.size from hbk2)
      have HRB := Lib.hid (HRA.out.only oB id id id)
      have HMB := Lib.hid (HMA.out.only oB (fun _ => id))
      have HKB := Lib.hid (oB.keep HKA.out id)
      have HOB := Lib.hid (HOA.out.trans oB (fun _ _ h => h))
      have hszA : mc < wA.heap.size := lt_of_block HKA.out
      have hnn : S.length = n := HN.out.symm
      rw [hnn]
      have hcb := cell_of_one HKB.out
      have hlB := h_len hb lb mb S
      rw [hnn] at hlB
      clear hit hown oB hce2 hbk2 HRA HMA HKA HOA hnn HF
      go_wp2_with (fail)
      go_region_held3 (fun w' => w'.cell? ⟨mc, 0, none⟩ = some (.slice ao n cp))
        (first | exact hcb)
        (first | (go_at_call 20; refine (hlB _ (HRB.out.only ((Only.refl (fun _ => False) _).drewN 1) id id id)).mono ?_; rintro _ w2 ⟨rfl, rfl⟩))
      have HRC := Lib.hid (HRB.out.only ((Only.refl (fun _ => False) _).drewN 1) id id id)
      have HMC := Lib.hid (HMB.out.only ((Only.refl (fun _ => False) _).drewN 1) (fun _ => id))
      have HKC : Hid ((wB.drewN 1).heap[mc]? = _) := HKB.out
      have HOC := Lib.hid (HOB.out.drewN 1)
      have HCC := Lib.hid (HCE.out.only ((Only.refl (fun _ => False) _).drewN 1) (fun _ _ => id))
      have HGC : Hid (∀ k, ao2 = some ⟨k, 0, none⟩ → wA.heap.size ≤ k ∧ k < (wB.drewN 1).heap.size) := HGE.out
      clear hcb hlB HRB HMB HKB HOB HCE HGE
      generalize wB.drewN 1 = wC at *
      go_wp2_with (fail)
      obtain ⟨wc, hwc⟩ : ∃ wc, wc = wC.heap.size := ⟨_, rfl⟩
      have oD : Only (fun _ => False) wC (wC.alloc (Obj.cells #[Value.int .i64 0] 3)) := (Only.refl _ _).alloc _
      have HRD := Lib.hid (HRC.out.only oD id id id)
      have HMD := Lib.hid (HMC.out.only oD (fun _ => id))
      have HKD := Lib.hid (oD.keep HKC.out id)
      have HOD := Lib.hid (HOC.out.trans oD (fun _ _ h => h))
      have HCD := Lib.hid (HCC.out.only oD (fun _ _ => id))
      have HWD : Hid ((wC.alloc (Obj.cells #[Value.int .i64 0] 3)).heap[wc]? = some (.cells #[.int .i64 0] 3 (0, 0))) := by rw [hwc]; exact heap_alloc_new _ _
      have hltC := HRC.out.lts
      have hwcs : wc < (wC.alloc (Obj.cells #[Value.int .i64 0] 3)).heap.size := lt_of_block HWD.out
      have hfar : ∀ k, k < wC.heap.size → k ≠ wc := fun k hk => by omega
      have HFR : Hid (hb ≠ wc ∧ lb ≠ wc ∧ mb ≠ wc ∧ mc ≠ wc ∧ w1.heap.size ≤ wc ∧ (0 < S.length → rb ≠ wc) ∧ ∀ k, ao2 = some ⟨k, 0, none⟩ → k ≠ wc) := by
        have h1 := lt_of_block HKC.out
        have h2 := HOC.out.size
        exact ⟨by omega, by omega, by omega, by omega, by omega, fun hp => by have := HMC.out.lt hp; omega, fun k hk => by have := (HGC.out k hk).2; omega⟩
      rw [← hwc]
      clear oD HRC HMC HKC HOC HCC HGC hltC hfar
      generalize wC.alloc (Obj.cells #[Value.int .i64 0] 3) = wD at *
      clear hwc
      go_loopw [11] (fun vi wr => ∃ j : Nat, vi = .int .i64 j ∧ j ≤ n ∧ wr.heap[wc]? = some (.cells #[.int .i64 (wantN S j : Nat)] 3 (0, 0)) ∧ Only (fun k => k = wc) wD wr) (fun vi _ => n - (intOf vi).toNat)
      case atStart => exact ⟨0, rfl, Nat.zero_le _, by rw [wantN_zero]; exact HWD.out, Only.refl _ _⟩
      case round =>
        obtain ⟨j, rfl, hj, hwj, hoj⟩ := hrel
        have HWJ := Lib.hid hwj
        have HOJ := Lib.hid hoj
        have HMJ := Lib.hid (HMD.out.only hoj HFR.out.2.2.2.2.2.1)
        have HCJ := Lib.hid (HCD.out.only hoj HFR.out.2.2.2.2.2.2)
        have kmj := hoj.keep HKD.out HFR.out.2.2.2.1
        have cmj := cell_of_one kmj
        have HKJ := Lib.hid kmj
        clear hwj hoj kmj
        by_cases hjn : j < n
        · have hjs : j < S.length := by rw [← HN.out]; exact hjn
          obtain ⟨g, rfl, hcg⟩ := HCJ.out (by omega)
          obtain ⟨ao', cq, hv, hcq, hm0⟩ := id HMJ.out
          obtain ⟨off, hao, hmr⟩ := hm0 (by omega)
          obtain ⟨rfl, -, rfl⟩ : ao = ao' ∧ n = S.length ∧ cp = cq := by cases hv; exact ⟨rfl, rfl, rfl⟩
          subst hao
          obtain ⟨d0, d1⟩ := hcg j hjs
          obtain ⟨q0, q1⟩ := hmr j hjs
          have hws := wantN_succ S j hjs
          have hwl := wantN_le S j
          obtain ⟨⟨x1, x2⟩, hx⟩ : ∃ x, x = atE S j := ⟨_, rfl⟩
          obtain ⟨u, hu⟩ : ∃ u, u = wantN S j := ⟨_, rfl⟩
          rw [← hx] at d0 d1 q0 q1 hws
          rw [← hu] at HWJ hws hwl
          simp only at d0 d1 q0 q1 hws
          have cwj := cell_of_one HWJ.out
          have HWS := Lib.hid hws
          have e0 : (n : Int) ≤ 200 := by have := HN.out; omega
          clear hx hu hv hcg hm0 hmr hws hcq
          go_wp2_with (fail)
          go_region_held3 (fun w' => w'.cell? ⟨mc, 0, none⟩ = some (.slice (some ⟨rb, off, none⟩) n cp) ∧ w'.cell? ⟨g, j * 2, none⟩ = some (.int .i64 x1) ∧ w'.cell? ⟨g, j * 2 + 1, none⟩ = some (.int .i64 x2) ∧ w'.cell? ⟨rb, off + j * 2, none⟩ = some (.int .i64 x1) ∧ w'.cell? ⟨rb, off + j * 2 + 1, none⟩ = some (.int .i64 x2))
            (first | exact ⟨cmj, d0, d1, q0, q1⟩ | exact ⟨o2.cell cmj id, o2.cell d0 id, o2.cell d1 id, o2.cell q0 id, o2.cell q1 id⟩)
            (first | (go_at_call 18; refine (plain_at (x1, x2) _).mono ?_; rintro _ w2 ⟨rfl, o2⟩))
          have oj2 : Only (fun _ => False) wr w2 := ((Only.refl _ _).drewN 1).trans o2 (fun _ _ h => h)
          have HW2 := Lib.hid (oj2.keep HWJ.out id)
          have HO2 := Lib.hid (HOJ.out.trans oj2 (fun _ _ h => h.elim))
          have cmj := oj2.cell cmj id
          have q1 := oj2.cell q1 id
          have cwj := cell_of_one HW2.out
          have fwj := free_of_one HW2.out
          clear d0 d1 q0 o2 oj2 HWJ HOJ HMJ HCJ HKJ
          cases hlo : lowB x2 with
          | true =>
            by_cases huj : u = j
            · subst huj
              have HWS2 := Lib.hid (show wantN S (u + 1) = u + 1 by rw [HWS.out, if_pos ⟨hlo, rfl⟩])
              have HLO := Lib.hid hlo
              clear hlo HWS
              go_wp2_with (first | (go_at_call 26; refine (low_is x2 true _ HLO.out).mono ?_; rintro _ _ ⟨rfl, rfl⟩))
              go_roundw
              case rel => exact ⟨u + 1, by go_num, by omega, by rw [HWS2.out]; exact one_setCell HW2.out, HO2.out.trans (Only.setAt (Only.refl _ _) 0 _) (fun _ _ h => h)⟩
              case measure => simp [intOf]; omega
            · have HWS2 := Lib.hid (show wantN S (j + 1) = u by rw [HWS.out, if_neg (fun h => huj h.2)])
              have HLO := Lib.hid hlo
              have huj2 : ¬ (u : Int) = (j : Int) := by omega
              clear hlo HWS huj
              go_wp2_with (first | (go_at_call 26; refine (low_is x2 true _ HLO.out).mono ?_; rintro _ _ ⟨rfl, rfl⟩))
              go_roundw
              case rel => exact ⟨j + 1, by go_num, by omega, by rw [HWS2.out]; exact HW2.out, HO2.out⟩
              case measure => simp [intOf]; omega
          | false =>
            have HWS2 := Lib.hid (show wantN S (j + 1) = u by rw [HWS.out, if_neg (fun h => by rw [hlo] at h; cases h.1)])
            have HLO := Lib.hid hlo
            clear hlo HWS
            go_wp2_with (first | (go_at_call 26; refine (low_is x2 false _ HLO.out).mono ?_; rintro _ _ ⟨rfl, rfl⟩))
            go_roundw
            case rel => exact ⟨j + 1, by go_num, by omega, by rw [HWS2.out]; exact HW2.out, HO2.out⟩
            case measure => simp [intOf]; omega
        · obtain rfl : j = n := by omega
          have hwk : wantN S j = (whileK S).length := by have := wantN_all S; rwa [← HN.out] at this
          obtain ⟨k, hk⟩ : ∃ k, k = wantN S j := ⟨_, rfl⟩
          rw [← hk] at HWJ hwk
          have HK := Lib.hid hwk
          have hkj := wantN_le S j
          rw [← hk] at hkj
          have HRJ := Lib.hid (HRD.out.only HOJ.out HFR.out.1 HFR.out.2.1 HFR.out.2.2.1)
          clear hk hwk HCJ
          go_wp2_with (fail)
          refine (while_call _ 26 _).mono ?_
          rintro _ wE ⟨rfl, hwE⟩
          obtain ⟨nc, hnc⟩ : ∃ nc, nc = wr.heap.size := ⟨_, rfl⟩
          have oB : Only (fun _ => False) wr wE := by rw [hwE]; exact (((Only.refl _ _).alloc _).alloc _).alloc _
          have hs3 : wE.heap.size = nc + 3 := by rw [hwE, hnc]; simp
          have k5 : wE.heap[nc]? = some (.cells #[.int .i64 0] 3 (0, 0)) := by rw [hwE, hnc]; exact hp_alloc (hp_alloc (heap_alloc_new wr _) _) _
          have k6 : wE.heap[nc + 1]? = some (.cells #[.pointer (some ⟨hb, 0, none⟩)] 24 (0, 0)) := by rw [hwE, hnc]; exact hp_alloc (heap_alloc2_new wr _ _) _
          have k7 : wE.heap[nc + 1 + 1]? = some (.cells #[.func (.func 26) #[] #[]] 36 (0, 0)) := by
            have h := heap_alloc_new ((wr.alloc (Obj.cells #[Value.int IntKind.i64 0] 3)).alloc (Obj.cells #[Value.pointer (some ⟨hb, 0, none⟩)] 24)) (Obj.cells #[.func (.func 26) #[] #[]] 36)
            simp only [World.size_alloc] at h
            rw [hwE, hnc]; exact h
          have hfr := HFR.out
          have hbb := HB.out
          have k3 : wE.heap[w.heap.size]? = _ := oB.keep (HOJ.out.keep (HOD.out.keep K1.out.1 id) (by omega)) id
          have k4 : wE.heap[w.heap.size + 1]? = _ := oB.keep (HOJ.out.keep (HOD.out.keep K1.out.2 id) (by omega)) id
          have k8 : wE.heap[wc]? = _ := oB.keep HWJ.out id
          have km : wE.heap[mc]? = _ := oB.keep HKJ.out id
          have kr := HMJ.out.only oB (fun _ => id)
          have q1 := while_iter (nc + 1) (nc + 1 + 1) hb lb mb S wE (cell_of_one k6) (cell_of_one k7) (HRJ.out.only oB id id id)
          have hwr0 := HOD.out.size
          have hwr1 := HOJ.out.size
          have hwc1 : wc < nc := by rw [hnc]; exact lt_of_block HWJ.out
          have hmc1 : mc < nc := by rw [hnc]; exact lt_of_block HKJ.out
          have hrc1 : 0 < S.length → rb < nc := fun hp => by rw [hnc]; exact HMJ.out.lt hp
          have HS3 := Lib.hid hs3
          have HPOS := Lib.hid (show w.heap.size + 2 ≤ nc ∧ wc < nc ∧ mc < nc ∧ w.heap.size + 1 < wc ∧ w.heap.size + 1 < mc by omega)
          have HRC := Lib.hid hrc1
          have HKS := Lib.hid (And.intro k3 (And.intro k4 (And.intro k8 (And.intro km kr))))
          have O3 : Hid (Only (fun _ => False) w wE) := O1.out.trans ((HOD.out.trans HOJ.out (fun q hq h => by omega)).trans oB (fun _ _ h => h)) (fun _ _ h => h)
          have HNC := Lib.hid hnc
          have hsz : (wr.alloc (Obj.cells #[Value.int IntKind.i64 0] 3)).heap.size = nc + 1 := by simp [hnc]
          rw [hsz]
          rw [← hnc]
          clear hwE hs3 oB k6 k7 k3 k4 k8 km kr hfr hbb hwr0 hwr1 hwc1 hmc1 hrc1 hsz HMD HRD HKD HOD HCD HWD HRJ HOJ HWJ HKJ HMJ hnc
          go_wp2_with (fail)
          refine wp_rangeS (gf := 36) (lb := #[.pointer (some ⟨nc + 1, 0, none⟩), .pointer (some ⟨nc + 1 + 1, 0, none⟩)]) rfl (enters_of Try.func36 (by kernel_rfl) rfl) (fun q hq => by have := HS3.out; omega) q1 (fun x => rfl) ?_
          intro W0 hW0 hs0
          have hwW : nc + 5 ≤ W0.heap.size := by have := HS3.out; omega
          have rest : ∀ W, Only (fun q => q = nc) wE W → W.heap[w.heap.size]? = some (.cells #[.int .u8 st] 5 (0, 0)) ∧ W.heap[w.heap.size + 1]? = some (.cells #[.bool false] 4 (0, 0)) ∧ W.heap[wc]? = some (.cells #[.int .i64 k] 3 (0, 0)) ∧ W.heap[mc]? = some (.cells #[.slice ao j cp] 27 (0, 0)) ∧ ReadB W rb (.slice ao j cp) S := fun W ho => by
            have hp := HPOS.out
            obtain ⟨a3, a4, a8, am, ar⟩ := HKS.out
            exact ⟨ho.keep a3 (by omega), ho.keep a4 (by omega), ho.keep a8 (by omega), ho.keep am (by omega), ar.only ho (fun hp' => by have := HRC.out hp'; omega)⟩
          have HREST := Lib.hid rest
          clear rest
          refine ⟨fun jj W => jj ≤ k ∧ (jj = 0 ∨ (jj : Int) < st) ∧ W.heap[nc]? = some (.cells #[.int .i64 jj] 3 (0, 0)) ∧ W0.heap.size ≤ W.heap.size ∧ Only (fun q => q = nc) wE W,
            fun c W => c = .exit 5 ∧ ∃ jj : Nat, jj ≤ k ∧ (((jj : Int) = st ∧ 1 ≤ st) ∨ (jj = 1 ∧ st ≤ 1)) ∧ W.heap[nc]? = some (.cells #[.int .i64 jj] 3 (0, 0)) ∧ Only (fun q => q = nc) wE W, ?_, ?_, ?_, ?_, ?_, ?_⟩
          · exact ⟨Nat.zero_le _, .inl rfl, hW0.keep k5 id, Nat.le_refl _, hW0.mono (fun _ h => h.elim)⟩
          · rintro jj W1 W2 ⟨h1, hn, g5, h4, h5⟩ ho
            have hz := HS3.out
            exact ⟨h1, hn, ho.keep g5 (fun h => by have := h.1; omega), by have := ho.size; omega, h5.trans ho (fun q hq h => by have := h.1; omega)⟩
          · rintro c W1 W2 ⟨h1, jj, hj1, hj2, g5, h5⟩ ho
            have hz := HS3.out
            exact ⟨h1, jj, hj1, hj2, ho.keep g5 (fun h => by have := h.1; omega), h5.trans ho (fun q hq h => by have := h.1; omega)⟩
          · rintro ll jj hjl Wp W ⟨h1, hn, g5, h4, h5⟩ hoP
            have hz := HS3.out
            have hszP := hoP.size
            have hjk : jj < k := by rw [HK.out]; exact hjl
            obtain ⟨hjS, hxe⟩ := whileK_at S jj hjl
            have hjn : (jj : Int) < (j : Int) := by omega
            simp only [encK]
            obtain ⟨x, hx⟩ : ∃ x, x = (whileK S)[jj] := ⟨_, rfl⟩
            rw [← hx] at hxe ⊢
            have HX := Lib.hid hxe
            have G := Lib.hid (hoP.keep g5 (fun h => by have := h.1; omega))
            have H5 : Hid (Only (fun q => q = nc) wE W) := h5.trans hoP (fun q hq h => by have := h.1; omega)
            have HN2 := Lib.hid hn
            clear hx h5 g5 hn k5 q1 hoP hW0 hxe
            gi_wp2
            refine ⟨KeptT.refl _ _, fun W2 ho => ?_⟩
            have hszs := ho.size
            have g5 := ho.keep G.out (fun h => by have := h.1; omega)
            have H52 : Hid (Only (fun q => q = nc) wE W2) := H5.out.trans ho (fun q hq h => by have := h.1; omega)
            obtain ⟨g3, -, g8, gm, gr⟩ := HREST.out W2 H52.out
            obtain ⟨ao', cq, hv, hcq, hm0⟩ := gr
            obtain ⟨off, hao, hmr⟩ := hm0 (by omega)
            obtain ⟨rfl, -, rfl⟩ : ao = ao' ∧ j = S.length ∧ cp = cq := by cases hv; exact ⟨rfl, rfl, rfl⟩
            subst hao
            have q0 := (hmr jj hjS).1
            rw [← HX.out] at q0
            have c3 := cell_of_one g3
            have c5 := cell_of_one g5
            have f5 := free_of_one g5
            have c8 := cell_of_one g8
            have cm := cell_of_one gm
            have c3' : (W2.setCell ⟨nc, 0, none⟩ (.int .i64 ((jj : Int) + 1))).cell? ⟨w.heap.size, 0, none⟩ = some (.int .u8 st) := hp_setc c3 (by show w.heap.size ≠ nc; have := HPOS.out; omega) _
            have GG := Lib.hid g5
            have HSZ := Lib.hid (show W0.heap.size ≤ Wp.heap.size ∧ Wp.heap.size ≤ W.heap.size ∧ W.heap.size ≤ W2.heap.size by omega)
            have HSW := Lib.hid (And.intro hwW hs0)
            have hj200 : jj < 200 := by have := HN.out; omega
            have fin : ∀ W3, W3 = W2.setCell ⟨nc, 0, none⟩ (.int .i64 ((jj : Int) + 1)) → KeptT (prot (fun q => q = nc + 1 + 1) wE.heap.size W0.heap.size Wp.heap.size W.heap.size) W2 W3 ∧
                W3.heap[nc]? = some (.cells #[.int .i64 (jj + 1 : Nat)] 3 (0, 0)) ∧ W0.heap.size ≤ W3.heap.size ∧ Only (fun q => q = nc) wE W3 := by
              rintro W3 rfl
              have ho4 : Only (fun q => q = nc) W2 (W2.setCell ⟨nc, 0, none⟩ (.int .i64 ((jj : Int) + 1))) := Only.setAt (Only.refl _ W2) 0 _
              refine ⟨ho4.keptT (fun q hq => ?_), hp_same (j := 0) GG.out _, by have := ho4.size; omega, H52.out.trans ho4 (fun q hq h => h)⟩
              rcases hq with hq | hq | hq <;> omega
            have FIN := Lib.hid fin
            clear fin g3 g5 g8 gm ho H5 G hszs hszP hz hv hcq hm0 hmr
            by_cases hstop : st ≤ (jj : Int) + 1
            · have hj2 : ((((jj + 1 : Nat) : Int) = st ∧ 1 ≤ st) ∨ (jj + 1 = 1 ∧ st ≤ 1)) := by
                rcases HN2.out with h | h
                · by_cases h2 : st ≤ 1
                  · exact .inr ⟨by omega, h2⟩
                  · omega
                · exact .inl ⟨by omega, by omega⟩
              have HJ2 := Lib.hid hj2
              clear hj2 hwW
              gi_wp2
              obtain ⟨r1, r2, r3, r4⟩ := FIN.out _ rfl
              exact ⟨r1, rfl, jj + 1, by omega, HJ2.out, r2, r4⟩
            · have HST := Lib.hid hstop
              clear hwW
              gi_wp2
              obtain ⟨r1, r2, r3, r4⟩ := FIN.out _ rfl
              exact ⟨r1, by omega, .inr (by have := HST.out; omega), r2, r3, r4⟩
          · rintro Dd W hD1 hD2 ⟨h1, hn, g5, h4, h5⟩ hK
            rw [← HK.out] at g5
            obtain ⟨g3, g4, g8, -, -⟩ := HREST.out W h5
            have c3 := cell_of_one g3
            have c4 := cell_of_one g4
            have f4 := free_of_one g4
            have c5 := cell_of_one g5
            have c8 := cell_of_one g8
            have G4 := Lib.hid g4
            have H5 := Lib.hid h5
            have HKK := Lib.hid hK
            have HSW := Lib.hid hwW
            clear h1 hn h4 h5 hK g3 g4 g5 g8 k5 q1 hW0 hwW
            go_wp2_with (fail)
            have e5 := one_setCell (u := .bool true) G4.out
            have ho : Only (fun q => q = w.heap.size + 1) W (W.setCell ⟨w.heap.size + 1, 0, none⟩ (.bool true)) := Only.setAt (Only.refl _ W) 0 _
            have hp : Only (fun q => q = Dd) (W.setCell ⟨w.heap.size + 1, 0, none⟩ (.bool true)) ((W.setCell ⟨w.heap.size + 1, 0, none⟩ (.bool true)).putObj Dd (.deferred none)) := only_putObj (Only.refl _ _) _ _ (.inl rfl)
            have hz := HS3.out
            have hq := HSW.out
            have hpp := HPOS.out
            refine ⟨by simp, .inl ⟨_, _, rfl, run_takeDeferred (ho.keep HKK.out (fun h => by omega)), ?_⟩⟩
            exact ⟨_, results_cell_one rfl _ _ ⟨w.heap.size + 1, 0, none⟩ _ _ rfl (cell_of_one (hp.keep e5 (fun h => by omega))) Try.underlying4 rfl, rfl, (((O3.out.trans H5.out (fun q hq h => by omega)).trans ho (fun q hq h => by omega)).trans hp (fun q hq h => by omega))⟩
          · rintro c Dd W hD1 hD2 ⟨rfl, jj, hj1, hj2, g5, h5⟩ hK
            obtain ⟨g3, g4, g8, -, -⟩ := HREST.out W h5
            have c3 := cell_of_one g3
            have c4 := cell_of_one g4
            have f4 := free_of_one g4
            have c5 := cell_of_one g5
            have c8 := cell_of_one g8
            have G4 := Lib.hid g4
            have H5 := Lib.hid h5
            have HKK := Lib.hid hK
            have HSW := Lib.hid hwW
            clear h5 hK g3 g4 g5 g8 k5 q1 hW0 hwW
            by_cases hjk : jj = k
            · subst hjk
              clear hj1 hj2
              go_wp2_with (fail)
              have e5 := one_setCell (u := .bool true) G4.out
              have ho : Only (fun q => q = w.heap.size + 1) W (W.setCell ⟨w.heap.size + 1, 0, none⟩ (.bool true)) := Only.setAt (Only.refl _ W) 0 _
              have hp : Only (fun q => q = Dd) (W.setCell ⟨w.heap.size + 1, 0, none⟩ (.bool true)) ((W.setCell ⟨w.heap.size + 1, 0, none⟩ (.bool true)).putObj Dd (.deferred none)) := only_putObj (Only.refl _ _) _ _ (.inl rfl)
              have hz := HS3.out
              have hq := HSW.out
              have hpp := HPOS.out
              refine ⟨by simp, .inl ⟨_, _, rfl, run_takeDeferred (ho.keep HKK.out (fun h => by omega)), ?_⟩⟩
              exact ⟨_, results_cell_one rfl _ _ ⟨w.heap.size + 1, 0, none⟩ _ _ rfl (cell_of_one (hp.keep e5 (fun h => by omega))) Try.underlying4 rfl, rfl, (((O3.out.trans H5.out (fun q hq h => by omega)).trans ho (fun q hq h => by omega)).trans hp (fun q hq h => by omega))⟩
            · have hjk2 : ((jj : Int) < (k : Int)) := by omega
              have HJ2 := Lib.hid hj2
              clear hj1 hj2
              go_wp2_with (fail)
              have hb : ((jj : Int) == (k : Int) || (jj : Int) == max st 1) = true := by
                have h2 := HJ2.out
                have h3 : ((jj : Int) == max st 1) = true := by
                  rw [beq_iff_eq]
                  omega
                rw [h3]; simp
              rw [hb]
              have e5 := one_setCell (u := .bool true) G4.out
              have ho : Only (fun q => q = w.heap.size + 1) W (W.setCell ⟨w.heap.size + 1, 0, none⟩ (.bool true)) := Only.setAt (Only.refl _ W) 0 _
              have hp : Only (fun q => q = Dd) (W.setCell ⟨w.heap.size + 1, 0, none⟩ (.bool true)) ((W.setCell ⟨w.heap.size + 1, 0, none⟩ (.bool true)).putObj Dd (.deferred none)) := only_putObj (Only.refl _ _) _ _ (.inl rfl)
              have hz := HS3.out
              have hq := HSW.out
              have hpp := HPOS.out
              refine ⟨by simp, .inl ⟨_, _, rfl, run_takeDeferred (ho.keep HKK.out (fun h => by omega)), ?_⟩⟩
              exact ⟨_, results_cell_one rfl _ _ ⟨w.heap.size + 1, 0, none⟩ _ _ rfl (cell_of_one (hp.keep e5 (fun h => by omega))) Try.underlying4 rfl, rfl, (((O3.out.trans H5.out (fun q hq h => by omega)).trans ho (fun q hq h => by omega)).trans hp (fun q hq h => by omega))⟩
end Go.Proofs.Ytnhiohgcoifniaa
