/- The walk of the law HeapPlays: it returns true. -/
import Derived.Test.YtnhiohgcoifniaaR3
import Derived.Test.YtnhiohgcoifniaaL6
namespace Go.Proofs.Ytnhiohgcoifniaa
open Go.RowKit Go.Gav Go.BigFrame

/-- A slice, in block rb, that reads as the entries S. -/
def ReadB (w : World) (rb : Nat) (v : Value) (S : List En) : Prop :=
  ∃ ao cap, v = .slice ao S.length cap ∧ S.length ≤ cap ∧ (0 < S.length → ∃ off, ao = some ⟨rb, off, none⟩ ∧ ∀ i, i < S.length → w.cell? ⟨rb, off + i * 2, none⟩ = some (.int .i64 (atE S i).1) ∧ w.cell? ⟨rb, off + i * 2 + 1, none⟩ = some (.int .i64 (atE S i).2))

theorem ReadE.b {w : World} {base : Nat} {v : Value} {S : List En} (h : ReadE w base v S) : ∃ rb, base ≤ rb ∧ ReadB w rb v S := by
  obtain ⟨ao, cap, e, hc, h0⟩ := h
  by_cases hp : 0 < S.length
  · obtain ⟨rb, off, e2, hb, hr⟩ := h0 hp
    exact ⟨rb, hb, ao, cap, e, hc, fun _ => ⟨off, e2, hr⟩⟩
  · exact ⟨base, Nat.le_refl _, ao, cap, e, hc, fun h => absurd h hp⟩
theorem ReadB.e {w : World} {rb : Nat} {v : Value} {S : List En} (h : ReadB w rb v S) : ReadE w rb v S := by
  obtain ⟨ao, cap, e, hc, h0⟩ := h
  exact ⟨ao, cap, e, hc, fun hp => let ⟨off, e2, hr⟩ := h0 hp; ⟨rb, off, e2, Nat.le_refl _, hr⟩⟩
theorem ReadB.only {S' : Nat → Prop} {w w' : World} {rb : Nat} {v : Value} {S : List En} (h : ReadB w rb v S) (ho : Only S' w w') (hS : 0 < S.length → ¬ S' rb) : ReadB w' rb v S := by
  obtain ⟨ao, cap, e, hc, h0⟩ := h
  refine ⟨ao, cap, e, hc, fun hp => ?_⟩
  obtain ⟨off, e2, hr⟩ := h0 hp
  exact ⟨off, e2, fun i hi => ⟨ho.cell (hr i hi).1 (hS hp), ho.cell (hr i hi).2 (hS hp)⟩⟩
theorem ReadB.lt {w : World} {rb : Nat} {v : Value} {S : List En} (h : ReadB w rb v S) (hp : 0 < S.length) : rb < w.heap.size := by
  obtain ⟨ao, cap, e, hc, h0⟩ := h
  obtain ⟨off, e2, hr⟩ := h0 hp
  exact World.block_lt_of_cell? w _ (hr 0 hp).1

set_option maxRecDepth 100000 in
set_option maxHeartbeats 4000000 in
theorem plays_walk (a : Option Addr) (len cap : Nat) (D : Nat → Int) (X : Nat → Int × Int) (w : World) (hl : IsActs w a len D X) (hlen : len ≤ 200) :
    Calls Try.prog 3 #[.slice a len cap] w fun e w' => e = .returned (.bool true) ∧ Only (fun _ => False) w w' := by
  have HL := Lib.hid hl
  clear hl
  go_enter Try.func3, Try.ntmps3
  go_wp2_with (fail)
  refine (awake_true _).mono ?_
  rintro e w1 ⟨rfl, o1⟩
  have O1 := Lib.hid o1
  clear o1
  go_wp2_with (fail)
  refine (h_new _).mono ?_
  rintro e w2 ⟨hb, l0, mb, rfl, h2, b1, b2, b3, o2⟩
  have H2 := Lib.hid h2
  have O2 := Lib.hid (O1.out.trans o2 (fun _ _ h => h))
  have hww := O1.out.size
  have HB : Hid (w.heap.size ≤ hb ∧ w.heap.size ≤ mb) := ⟨by omega, by omega⟩
  have hl0 : w.heap.size ≤ l0 := by omega
  clear h2 o2 b1 b2 b3 hww
  go_wp2
  go_loopw [4, 5] (fun vm vi wr => ∃ (i lb rb : Nat) (S : List En), vi = .int .i64 i ∧ i ≤ len ∧ HRep wr hb lb mb S ∧ ReadB wr rb vm S ∧ S.length ≤ i ∧ w.heap.size ≤ lb ∧ (0 < S.length → rb ≠ hb ∧ rb ≠ lb ∧ rb ≠ mb) ∧ Only (fun _ => False) w wr)
    (fun _ vi _ => len - (intOf vi).toNat)
  case atStart => exact ⟨0, l0, 0, [], rfl, Nat.zero_le _, H2.out, ⟨none, 0, rfl, Nat.le_refl _, fun h => by simp at h⟩, Nat.le_refl _, hl0, fun h => by simp at h, O2.out⟩
  case round =>
    clear H2 O2 hl0
    obtain ⟨i, lb, rb, S, rfl, hi, hr, hm, hs, hlb, hf, ho⟩ := hrel
    have HR := Lib.hid hr
    have HM := Lib.hid hm
    have HF := Lib.hid hf
    have HO := Lib.hid ho
    clear hr hm hf ho
    by_cases hlt : i < len
    · obtain ⟨bb, off, rfl, hc⟩ := HL.out (by omega)
      obtain ⟨d0, x0, y0, dlo, dhi, hkx⟩ := hc i hlt
      have e0 := HO.out.cell d0 id
      have e1 := HO.out.cell x0 id
      have e2 := HO.out.cell y0 id
      clear d0 x0 y0 hc
      obtain ⟨⟨kx, bx⟩, hxi⟩ : ∃ xi, xi = X i := ⟨_, rfl⟩
      rw [← hxi] at e1 e2 hkx
      simp only at e1 e2 hkx
      clear hxi
      have oq : Only (fun _ => False) wr (wr.alloc (.cells #[.int .u8 (D i), .int .i64 kx, .int .i64 bx] 29)) := (Only.refl _ _).alloc _
      have HR2 := Lib.hid (HR.out.only oq id id id)
      have HM2 := Lib.hid (HM.out.only oq (fun _ => id))
      have HO2 := Lib.hid (HO.out.trans oq (fun _ _ h => h))
      have hlts := HR.out.lts
      have HXB : Hid ((wr.alloc (.cells #[.int .u8 (D i), .int .i64 kx, .int .i64 bx] 29)).heap[wr.heap.size]? = some (.cells #[.int .u8 (D i), .int .i64 kx, .int .i64 bx] 29 (0, 0))) := heap_alloc_new _ _
      clear oq HR HM HO
      have h8 : D i % 8 = 0 ∨ D i % 8 = 1 ∨ D i % 8 = 2 ∨ D i % 8 = 3 ∨ D i % 8 = 4 ∨ D i % 8 = 5 ∨ D i % 8 = 6 ∨ D i % 8 = 7 := by omega
      rcases h8 with h8 | h8 | h8 | h8 | h8 | h8 | h8 | h8
      · (
          go_wp2_with (fail)
          refine (h_set hb lb mb S kx bx hkx _ HR2.out (by omega)).mono ?_
          rintro e w4 ⟨rfl, lb5, h4, g4, o4⟩
          have hsz0 : (wr.alloc (.cells #[.int .u8 (D i), .int .i64 kx, .int .i64 bx] 29)).heap.size = wr.heap.size + 1 := by simp
          have M4 := Lib.hid (HM2.out.only o4 (fun hp h => by have := HF.out hp; omega))
          have kx4 := o4.keep HXB.out (fun h => by omega)
          obtain ⟨-, c1, c2⟩ := three_cells kx4
          have hlts4 := h4.lts
          have hlb5 : w.heap.size ≤ lb5 := by
            rcases g4 with g4 | g4
            · omega
            · have := HO2.out.size; omega
          have O4 : Hid (Only (fun _ => False) w w4) := HO2.out.trans o4 (fun j hj h => by have := HB.out; omega)
          have H4 := Lib.hid h4
          clear kx4 h4 g4 o4 HR2 HM2 HO2 HXB hsz0 hlts
          go_wp2_with (fail)
          refine (ref_set u4 rb S kx bx _ M4.out.e (by omega)).mono ?_
          rintro e w5 ⟨v5, rfl, m5, o5⟩
          obtain ⟨rb5, hrb5, m5'⟩ := m5.b
          obtain ⟨S5, hS5⟩ : ∃ S5, S5 = setS S (kx, bx) := ⟨_, rfl⟩
          have hs5 : S5.length ≤ i + 1 := by rw [hS5]; have := setS_length S (kx, bx); omega
          rw [← hS5] at m5' H4
          have M5 := Lib.hid m5'
          have H5 := Lib.hid (H4.out.only o5 id id id)
          have O5 := Lib.hid (O4.out.trans o5 (fun _ _ h => h))
          have F5 : Hid (0 < S5.length → rb5 ≠ hb ∧ rb5 ≠ lb5 ∧ rb5 ≠ mb) := fun _ => by omega
          clear m5 m5' o5 hS5 hrb5 H4 O4 M4 HF hlts4 c1 c2
          go_wp2_with (fail))
        (
          obtain ⟨ao5, cap5, rfl, hcap5, -⟩ := id M5.out
          obtain ⟨n5, hn5⟩ : ∃ n5, n5 = S5.length := ⟨_, rfl⟩
          have HN5 := Lib.hid hn5
          rw [← hn5] at M5 hcap5
          clear hn5
          try rw [← HN5.out]
          try go_wp2_with (fail)
          refine (h_len hb lb5 mb S5 _ H5.out).mono ?_
          rintro e w9 ⟨rfl, rfl⟩
          rw [← HN5.out]
          go_wp2_with (fail)
          go_roundw
          case rel => exact ⟨i + 1, lb5, rb5, S5, by go_num, by omega, H5.out, M5.out, by omega, by omega, F5.out, O5.out⟩
          case measure => simp [intOf]; omega)
      · (
          go_wp2_with (fail)
          refine (h_set hb lb mb S kx bx hkx _ HR2.out (by omega)).mono ?_
          rintro e w4 ⟨rfl, lb5, h4, g4, o4⟩
          have hsz0 : (wr.alloc (.cells #[.int .u8 (D i), .int .i64 kx, .int .i64 bx] 29)).heap.size = wr.heap.size + 1 := by simp
          have M4 := Lib.hid (HM2.out.only o4 (fun hp h => by have := HF.out hp; omega))
          have kx4 := o4.keep HXB.out (fun h => by omega)
          obtain ⟨-, c1, c2⟩ := three_cells kx4
          have hlts4 := h4.lts
          have hlb5 : w.heap.size ≤ lb5 := by
            rcases g4 with g4 | g4
            · omega
            · have := HO2.out.size; omega
          have O4 : Hid (Only (fun _ => False) w w4) := HO2.out.trans o4 (fun j hj h => by have := HB.out; omega)
          have H4 := Lib.hid h4
          clear kx4 h4 g4 o4 HR2 HM2 HO2 HXB hsz0 hlts
          go_wp2_with (fail)
          refine (ref_set u4 rb S kx bx _ M4.out.e (by omega)).mono ?_
          rintro e w5 ⟨v5, rfl, m5, o5⟩
          obtain ⟨rb5, hrb5, m5'⟩ := m5.b
          obtain ⟨S5, hS5⟩ : ∃ S5, S5 = setS S (kx, bx) := ⟨_, rfl⟩
          have hs5 : S5.length ≤ i + 1 := by rw [hS5]; have := setS_length S (kx, bx); omega
          rw [← hS5] at m5' H4
          have M5 := Lib.hid m5'
          have H5 := Lib.hid (H4.out.only o5 id id id)
          have O5 := Lib.hid (O4.out.trans o5 (fun _ _ h => h))
          have F5 : Hid (0 < S5.length → rb5 ≠ hb ∧ rb5 ≠ lb5 ∧ rb5 ≠ mb) := fun _ => by omega
          clear m5 m5' o5 hS5 hrb5 H4 O4 M4 HF hlts4 c1 c2
          go_wp2_with (fail))
        (
          obtain ⟨ao5, cap5, rfl, hcap5, -⟩ := id M5.out
          obtain ⟨n5, hn5⟩ : ∃ n5, n5 = S5.length := ⟨_, rfl⟩
          have HN5 := Lib.hid hn5
          rw [← hn5] at M5 hcap5
          clear hn5
          try rw [← HN5.out]
          try go_wp2_with (fail)
          refine (h_len hb lb5 mb S5 _ H5.out).mono ?_
          rintro e w9 ⟨rfl, rfl⟩
          rw [← HN5.out]
          go_wp2_with (fail)
          go_roundw
          case rel => exact ⟨i + 1, lb5, rb5, S5, by go_num, by omega, H5.out, M5.out, by omega, by omega, F5.out, O5.out⟩
          case measure => simp [intOf]; omega)
      · (
          go_wp2_with (fail)
          refine (h_set hb lb mb S kx bx hkx _ HR2.out (by omega)).mono ?_
          rintro e w4 ⟨rfl, lb5, h4, g4, o4⟩
          have hsz0 : (wr.alloc (.cells #[.int .u8 (D i), .int .i64 kx, .int .i64 bx] 29)).heap.size = wr.heap.size + 1 := by simp
          have M4 := Lib.hid (HM2.out.only o4 (fun hp h => by have := HF.out hp; omega))
          have kx4 := o4.keep HXB.out (fun h => by omega)
          obtain ⟨-, c1, c2⟩ := three_cells kx4
          have hlts4 := h4.lts
          have hlb5 : w.heap.size ≤ lb5 := by
            rcases g4 with g4 | g4
            · omega
            · have := HO2.out.size; omega
          have O4 : Hid (Only (fun _ => False) w w4) := HO2.out.trans o4 (fun j hj h => by have := HB.out; omega)
          have H4 := Lib.hid h4
          clear kx4 h4 g4 o4 HR2 HM2 HO2 HXB hsz0 hlts
          go_wp2_with (fail)
          refine (ref_set u4 rb S kx bx _ M4.out.e (by omega)).mono ?_
          rintro e w5 ⟨v5, rfl, m5, o5⟩
          obtain ⟨rb5, hrb5, m5'⟩ := m5.b
          obtain ⟨S5, hS5⟩ : ∃ S5, S5 = setS S (kx, bx) := ⟨_, rfl⟩
          have hs5 : S5.length ≤ i + 1 := by rw [hS5]; have := setS_length S (kx, bx); omega
          rw [← hS5] at m5' H4
          have M5 := Lib.hid m5'
          have H5 := Lib.hid (H4.out.only o5 id id id)
          have O5 := Lib.hid (O4.out.trans o5 (fun _ _ h => h))
          have F5 : Hid (0 < S5.length → rb5 ≠ hb ∧ rb5 ≠ lb5 ∧ rb5 ≠ mb) := fun _ => by omega
          clear m5 m5' o5 hS5 hrb5 H4 O4 M4 HF hlts4 c1 c2
          go_wp2_with (fail))
        (
          obtain ⟨ao5, cap5, rfl, hcap5, -⟩ := id M5.out
          obtain ⟨n5, hn5⟩ : ∃ n5, n5 = S5.length := ⟨_, rfl⟩
          have HN5 := Lib.hid hn5
          rw [← hn5] at M5 hcap5
          clear hn5
          try rw [← HN5.out]
          try go_wp2_with (fail)
          refine (h_len hb lb5 mb S5 _ H5.out).mono ?_
          rintro e w9 ⟨rfl, rfl⟩
          rw [← HN5.out]
          go_wp2_with (fail)
          go_roundw
          case rel => exact ⟨i + 1, lb5, rb5, S5, by go_num, by omega, H5.out, M5.out, by omega, by omega, F5.out, O5.out⟩
          case measure => simp [intOf]; omega)
      · (
          go_wp2_with (fail)
          refine (h_set hb lb mb S kx bx hkx _ HR2.out (by omega)).mono ?_
          rintro e w4 ⟨rfl, lb5, h4, g4, o4⟩
          have hsz0 : (wr.alloc (.cells #[.int .u8 (D i), .int .i64 kx, .int .i64 bx] 29)).heap.size = wr.heap.size + 1 := by simp
          have M4 := Lib.hid (HM2.out.only o4 (fun hp h => by have := HF.out hp; omega))
          have kx4 := o4.keep HXB.out (fun h => by omega)
          obtain ⟨-, c1, c2⟩ := three_cells kx4
          have hlts4 := h4.lts
          have hlb5 : w.heap.size ≤ lb5 := by
            rcases g4 with g4 | g4
            · omega
            · have := HO2.out.size; omega
          have O4 : Hid (Only (fun _ => False) w w4) := HO2.out.trans o4 (fun j hj h => by have := HB.out; omega)
          have H4 := Lib.hid h4
          clear kx4 h4 g4 o4 HR2 HM2 HO2 HXB hsz0 hlts
          go_wp2_with (fail)
          refine (ref_set u4 rb S kx bx _ M4.out.e (by omega)).mono ?_
          rintro e w5 ⟨v5, rfl, m5, o5⟩
          obtain ⟨rb5, hrb5, m5'⟩ := m5.b
          obtain ⟨S5, hS5⟩ : ∃ S5, S5 = setS S (kx, bx) := ⟨_, rfl⟩
          have hs5 : S5.length ≤ i + 1 := by rw [hS5]; have := setS_length S (kx, bx); omega
          rw [← hS5] at m5' H4
          have M5 := Lib.hid m5'
          have H5 := Lib.hid (H4.out.only o5 id id id)
          have O5 := Lib.hid (O4.out.trans o5 (fun _ _ h => h))
          have F5 : Hid (0 < S5.length → rb5 ≠ hb ∧ rb5 ≠ lb5 ∧ rb5 ≠ mb) := fun _ => by omega
          clear m5 m5' o5 hS5 hrb5 H4 O4 M4 HF hlts4 c1 c2
          go_wp2_with (fail))
        (
          obtain ⟨ao5, cap5, rfl, hcap5, -⟩ := id M5.out
          obtain ⟨n5, hn5⟩ : ∃ n5, n5 = S5.length := ⟨_, rfl⟩
          have HN5 := Lib.hid hn5
          rw [← hn5] at M5 hcap5
          clear hn5
          try rw [← HN5.out]
          try go_wp2_with (fail)
          refine (h_len hb lb5 mb S5 _ H5.out).mono ?_
          rintro e w9 ⟨rfl, rfl⟩
          rw [← HN5.out]
          go_wp2_with (fail)
          go_roundw
          case rel => exact ⟨i + 1, lb5, rb5, S5, by go_num, by omega, H5.out, M5.out, by omega, by omega, F5.out, O5.out⟩
          case measure => simp [intOf]; omega)
      · go_wp2_with (fail)
        refine (ref_del u4 rb S kx _ HM2.out.e (by omega)).mono ?_
        rintro e w4 ⟨v4, rfl, m4, o4⟩
        have hsz0 : (wr.alloc (.cells #[.int .u8 (D i), .int .i64 kx, .int .i64 bx] 29)).heap.size = wr.heap.size + 1 := by simp
        obtain ⟨-, c1, c2⟩ := three_cells (o4.keep HXB.out id)
        obtain ⟨gb, hgb⟩ : ∃ gb, gb = (getS S kx).isSome := ⟨_, rfl⟩
        have HGB := Lib.hid hgb
        obtain ⟨rb5, hrb5, m4'⟩ := m4.b
        have M4 := Lib.hid m4'
        have HR4 := Lib.hid (HR2.out.only o4 id id id)
        have O4 := Lib.hid (HO2.out.trans o4 (fun _ _ h => h))
        rw [← hgb]
        clear m4 m4' o4 hgb HR2 HM2 HO2 HXB
        go_wp2_with (fail)
        refine (h_del hb lb mb S kx hkx _ HR4.out).mono ?_
        rintro e w5 ⟨rfl, h5, o5⟩
        rw [← HGB.out]
        obtain ⟨lb5, hlb5'⟩ : ∃ lb5, lb5 = lb := ⟨_, rfl⟩
        have hlb5 : w.heap.size ≤ lb5 := by omega
        obtain ⟨S5, hS5⟩ : ∃ S5, S5 = delS S kx := ⟨_, rfl⟩
        have hs5 : S5.length ≤ i + 1 := by rw [hS5]; have := delS_length S kx; omega
        rw [← hS5] at M4 h5
        rw [← hlb5'] at h5
        have M5 := Lib.hid (M4.out.only o5 (fun _ h => by omega))
        have H5 := Lib.hid h5
        have O5 : Hid (Only (fun _ => False) w w5) := O4.out.trans o5 (fun j hj h => by have := HB.out; omega)
        have F5 : Hid (0 < S5.length → rb5 ≠ hb ∧ rb5 ≠ lb5 ∧ rb5 ≠ mb) := fun _ => by omega
        clear M4 HR4 O4 h5 o5 hS5 hlb5' hrb5 HGB HF c1 c2 hlts
        go_wp2_with (fail)
        (
          obtain ⟨ao5, cap5, rfl, hcap5, -⟩ := id M5.out
          obtain ⟨n5, hn5⟩ : ∃ n5, n5 = S5.length := ⟨_, rfl⟩
          have HN5 := Lib.hid hn5
          rw [← hn5] at M5 hcap5
          clear hn5
          try rw [← HN5.out]
          try go_wp2_with (fail)
          refine (h_len hb lb5 mb S5 _ H5.out).mono ?_
          rintro e w9 ⟨rfl, rfl⟩
          rw [← HN5.out]
          go_wp2_with (fail)
          go_roundw
          case rel => exact ⟨i + 1, lb5, rb5, S5, by go_num, by omega, H5.out, M5.out, by omega, by omega, F5.out, O5.out⟩
          case measure => simp [intOf]; omega)
      · go_wp2_with (fail)
        refine (h_get hb lb mb S kx hkx _ HR2.out).mono ?_
        rintro e w4 ⟨rfl, rfl⟩
        obtain ⟨gb, hgb⟩ : ∃ gb, gb = (getS S kx).isSome := ⟨_, rfl⟩
        obtain ⟨gd, hgd⟩ : ∃ gd, gd = (getS S kx).getD 0 := ⟨_, rfl⟩
        have HGB := Lib.hid (And.intro hgb hgd)
        rw [← hgb, ← hgd]
        clear hgb hgd
        go_wp2_with (fail)
        refine (ref_get u4 rb S kx _ HM2.out.e (by omega)).mono ?_
        rintro e w5 ⟨rfl, rfl⟩
        rw [← HGB.out.1, ← HGB.out.2]
        obtain ⟨lb5, hlb5'⟩ : ∃ lb5, lb5 = lb := ⟨_, rfl⟩
        obtain ⟨S5, hS5⟩ : ∃ S5, S5 = S := ⟨_, rfl⟩
        obtain ⟨rb5, hrb5⟩ : ∃ z, z = rb := ⟨_, rfl⟩
        have hlb5 : w.heap.size ≤ lb5 := by omega
        have hs5 : S5.length ≤ i + 1 := by rw [hS5]; omega
        have M5 := HM2
        have H5 := HR2
        have O5 := HO2
        have F5 := HF
        rw [← hrb5, ← hS5] at M5
        rw [← hlb5', ← hS5] at H5
        rw [← hrb5, ← hlb5', ← hS5] at F5
        clear HM2 HR2 HO2 HF HGB hlb5' hS5 hrb5 hlts HXB
        go_wp2_with (fail)
        (
          obtain ⟨ao5, cap5, rfl, hcap5, -⟩ := id M5.out
          obtain ⟨n5, hn5⟩ : ∃ n5, n5 = S5.length := ⟨_, rfl⟩
          have HN5 := Lib.hid hn5
          rw [← hn5] at M5 hcap5
          clear hn5
          try rw [← HN5.out]
          try go_wp2_with (fail)
          refine (h_len hb lb5 mb S5 _ H5.out).mono ?_
          rintro e w9 ⟨rfl, rfl⟩
          rw [← HN5.out]
          go_wp2_with (fail)
          go_roundw
          case rel => exact ⟨i + 1, lb5, rb5, S5, by go_num, by omega, H5.out, M5.out, by omega, by omega, F5.out, O5.out⟩
          case measure => simp [intOf]; omega)
      · cases S with
        | nil =>
          go_wp2_with (fail)
          refine (h_pop hb lb mb [] (fun x hx => by cases hx) _ HR2.out).mono ?_
          rintro e w4 ⟨rfl, h4, o4⟩
          rw [show headE [] = (0, 0) from rfl]
          simp only [List.isEmpty_nil, Bool.not_true]
          obtain ⟨ao, cp, rfl, -, -⟩ := id HM2.out
          have M4 := Lib.hid (HM2.out.only o4 (fun h => absurd h (Nat.lt_irrefl 0)))
          have H4 := Lib.hid h4
          have O4 : Hid (Only (fun _ => False) w w4) := HO2.out.trans o4 (fun j hj h => by have := HB.out; omega)
          clear h4 o4 HR2 HM2 HO2 HXB
          go_wp2_with (fail)
          refine (plain_at (0, 0) _).mono ?_
          rintro e w5 ⟨rfl, o5⟩
          have M5 := Lib.hid ((M4.out.only ((Only.refl (fun _ => False) w4).alloc _) (fun _ => id)).only o5 (fun _ => id))
          have H5 : Hid (HRep w5 hb lb mb []) := (H4.out.only ((Only.refl (fun _ => False) w4).alloc _) id id id).only o5 id id id
          have O5 := Lib.hid ((O4.out.alloc _).trans o5 (fun _ _ h => h))
          clear M4 H4 O4 HF o5 hlts
          go_wp2_with (fail)
          refine (h_len hb lb mb [] _ H5.out).mono ?_
          rintro e w9 ⟨rfl, rfl⟩
          go_wp2_with (fail)
          go_roundw
          case rel => exact ⟨i + 1, lb, rb, [], by go_num, by omega, H5.out, M5.out, by simp, hlb, fun h => by simp at h, O5.out⟩
          case measure => simp [intOf]; omega
        | cons x xs =>
          obtain ⟨x1, x2⟩ := x
          go_wp2_with (fail)
          refine (h_pop hb lb mb _ HR2.out.range _ HR2.out).mono ?_
          rintro e w4 ⟨rfl, h4, o4⟩
          rw [show headE ((x1, x2) :: xs) = (x1, x2) from rfl]
          simp only [List.isEmpty_cons, Bool.not_false]
          have hF := HF.out (by simp)
          have hm4 := HM2.out.only o4 (fun _ h => by omega)
          obtain ⟨ao, cp, rfl, hcp, h0⟩ := id hm4
          obtain ⟨off2, rfl, hr⟩ := h0 (by simp)
          obtain ⟨q0, q1⟩ := hr 0 (by simp)
          have q0 : w4.cell? ⟨rb, off2, none⟩ = some (.int .i64 x1) := by simpa [atE] using q0
          have q1 : w4.cell? ⟨rb, off2 + 1, none⟩ = some (.int .i64 x2) := by simpa [atE] using q1
          have M4 := Lib.hid hm4
          have H4 : Hid (HRep w4 hb lb mb xs) := h4
          have O4 : Hid (Only (fun _ => False) w w4) := HO2.out.trans o4 (fun j hj h => by have := HB.out; omega)
          obtain ⟨n5, hn5⟩ : ∃ n5, n5 = xs.length := ⟨_, rfl⟩
          have hlen5 : ((x1, x2) :: xs).length = n5 + 1 := by rw [hn5]; rfl
          have HN5 := Lib.hid hn5
          rw [hlen5] at M4 hcp
          simp only [hlen5]
          clear h4 o4 HR2 HM2 HO2 HXB hr h0 hm4 hn5 hlen5
          go_wp2_with (fail)
          refine wp_region_quiet (C := fun w' => Only (fun _ => False) (w4.alloc (Obj.cells #[Value.int IntKind.i64 x1, Value.int IntKind.i64 x2] 40)) w') (by kernel_rfl) (by kernel_rfl) ((Only.refl _ _).drewN 1) ?_
          simp only []
          have hkk := heap_alloc_new w4 (Obj.cells #[Value.int IntKind.i64 x1, Value.int IntKind.i64 x2] 40)
          have hq0 : (w4.alloc (Obj.cells #[Value.int IntKind.i64 x1, Value.int IntKind.i64 x2] 40)).cell? ⟨rb, off2, none⟩ = some (.int .i64 x1) := ((Only.refl (fun _ => False) w4).alloc _).cell q0 id
          have hq1 : (w4.alloc (Obj.cells #[Value.int IntKind.i64 x1, Value.int IntKind.i64 x2] 40)).cell? ⟨rb, off2 + 1, none⟩ = some (.int .i64 x2) := ((Only.refl (fun _ => False) w4).alloc _).cell q1 id
          quiet_step ((intro _; rfl))
          quiet_step ((intro _; rfl))
          obtain ⟨hk0, hk1⟩ := two_cells hkk
          quiet_step ((intro ho; simp only [ho.cell hk0 id, ho.cell hk1 id, Result.andThen]; exact ⟨trivial, rfl⟩))
          quiet_step ((intro ho; refine (plain_at (x1, x2) _).mono ?_; rintro e w' ⟨rfl, o'⟩; exact ⟨rfl, ho.trans o' (fun _ _ h => h)⟩))
          quiet_step ((intro _; rfl))
          quiet_step ((intro _; rfl))
          quiet_step ((intro ho; simp only [ho.cell hq0 id, ho.cell hq1 id, Result.andThen]; exact ⟨trivial, rfl⟩))
          quiet_step ((intro _; rfl))
          quiet_step ((intro _; rfl))
          quiet_step ((intro _; rfl))
          refine wpQuiet_nil ?_
          intro w5 o5
          have O5 : Hid (Only (fun _ => False) w w5) := (O4.out.alloc _).trans o5 (fun _ _ h => h)
          have H5 : Hid (HRep w5 hb lb mb xs) := (H4.out.only ((Only.refl (fun _ => False) w4).alloc _) id id id).only o5 id id id
          have m5 := (M4.out.only ((Only.refl (fun _ => False) w4).alloc (Obj.cells #[Value.int IntKind.i64 x1, Value.int IntKind.i64 x2] 40)) (fun _ => id)).only o5 (fun _ => id)
          have hf5 : Hid (0 < xs.length → rb ≠ hb ∧ rb ≠ lb ∧ rb ≠ mb) := fun _ => hF
          have hs5 : n5 ≤ i + 1 := by have := HN5.out; simp at hs; omega
          have key : ∀ cp', n5 ≤ cp' → ∀ off', (0 < n5 → off' = off2 + 2) → ReadB w5 rb (.slice (some ⟨rb, off', none⟩) n5 cp') xs := by
            intro cp' hcp' off' ho'
            obtain ⟨ao, cq, hv, -, h0⟩ := m5
            obtain ⟨off3, he, hr⟩ := h0 (by simp)
            cases hv
            cases he
            rw [HN5.out] at hcp' ho' ⊢
            refine ⟨_, cp', rfl, hcp', fun hp => ⟨off', rfl, fun j hj => ?_⟩⟩
            have := hr (j + 1) (by simp; omega)
            rw [ho' hp]
            rw [show off2 + 2 + j * 2 = off2 + (j + 1) * 2 by omega]
            simpa [atE] using this
          have KEY := Lib.hid key
          clear m5 key o5 hk0 hk1 hq0 hq1 hkk q0 q1 H4 M4 O4 HF hlts
          by_cases hc1 : cp = 1
          · subst hc1
            have hn0 : n5 = 0 := by omega
            subst hn0
            go_wp2_with (fail)
            refine (h_len hb lb mb xs _ H5.out).mono ?_
            rintro e w9 ⟨rfl, rfl⟩
            rw [← HN5.out]
            go_wp2_with (fail)
            go_roundw
            case rel => exact ⟨i + 1, lb, rb, xs, by go_num, by omega, H5.out, KEY.out 0 (Nat.le_refl _) off2 (fun h => absurd h (Nat.lt_irrefl 0)), by rw [← HN5.out]; omega, hlb, hf5.out, O5.out⟩
            case measure => simp [intOf]; omega
          · go_wp2_with (fail)
            refine (h_len hb lb mb xs _ H5.out).mono ?_
            rintro e w9 ⟨rfl, rfl⟩
            rw [← HN5.out]
            go_wp2_with (fail)
            go_roundw
            case rel => exact ⟨i + 1, lb, rb, xs, by go_num, by omega, H5.out, KEY.out (cp - 1) (by omega) (off2 + 2) (fun _ => rfl), by rw [← HN5.out]; omega, hlb, hf5.out, O5.out⟩
            case measure => simp [intOf]; omega
      · cases S with
        | nil =>
          go_wp2_with (fail)
          refine (h_min hb lb mb [] _ HR2.out).mono ?_
          rintro e w4 ⟨rfl, o4⟩
          have h4 := HR2.out.only o4 id id id
          rw [show headE [] = (0, 0) from rfl]
          simp only [List.isEmpty_nil, Bool.not_true]
          obtain ⟨ao, cp, rfl, -, -⟩ := id HM2.out
          have M4 := Lib.hid (HM2.out.only o4 (fun _ => id))
          have H4 := Lib.hid h4
          have O4 : Hid (Only (fun _ => False) w w4) := HO2.out.trans o4 (fun _ _ h => h)
          clear h4 o4 HR2 HM2 HO2 HXB
          go_wp2_with (fail)
          refine (plain_at (0, 0) _).mono ?_
          rintro e w5 ⟨rfl, o5⟩
          have M5 := Lib.hid ((M4.out.only ((Only.refl (fun _ => False) w4).alloc _) (fun _ => id)).only o5 (fun _ => id))
          have H5 : Hid (HRep w5 hb lb mb []) := (H4.out.only ((Only.refl (fun _ => False) w4).alloc _) id id id).only o5 id id id
          have O5 := Lib.hid ((O4.out.alloc _).trans o5 (fun _ _ h => h))
          clear M4 H4 O4 HF o5 hlts
          go_wp2_with (fail)
          refine (h_len hb lb mb [] _ H5.out).mono ?_
          rintro e w9 ⟨rfl, rfl⟩
          go_wp2_with (fail)
          go_roundw
          case rel => exact ⟨i + 1, lb, rb, [], by go_num, by omega, H5.out, M5.out, by simp, hlb, fun h => by simp at h, O5.out⟩
          case measure => simp [intOf]; omega
        | cons x xs =>
          obtain ⟨x1, x2⟩ := x
          go_wp2_with (fail)
          refine (h_min hb lb mb _ _ HR2.out).mono ?_
          rintro e w4 ⟨rfl, o4⟩
          have h4 := HR2.out.only o4 id id id
          rw [show headE ((x1, x2) :: xs) = (x1, x2) from rfl]
          simp only [List.isEmpty_cons, Bool.not_false]
          have hF := HF.out (by simp)
          have hm4 := HM2.out.only o4 (fun _ => id)
          obtain ⟨ao, cp, rfl, hcp, h0⟩ := id hm4
          obtain ⟨off2, rfl, hr⟩ := h0 (by simp)
          obtain ⟨q0, q1⟩ := hr 0 (by simp)
          have q0 : w4.cell? ⟨rb, off2, none⟩ = some (.int .i64 x1) := by simpa [atE] using q0
          have q1 : w4.cell? ⟨rb, off2 + 1, none⟩ = some (.int .i64 x2) := by simpa [atE] using q1
          have M4 := Lib.hid hm4
          have H4 : Hid (HRep w4 hb lb mb ((x1, x2) :: xs)) := h4
          have O4 : Hid (Only (fun _ => False) w w4) := HO2.out.trans o4 (fun _ _ h => h)
          obtain ⟨n5, hn5⟩ : ∃ n5, n5 = xs.length := ⟨_, rfl⟩
          have hlen5 : ((x1, x2) :: xs).length = n5 + 1 := by rw [hn5]; rfl
          have HN5 := Lib.hid hn5
          rw [hlen5] at M4 hcp
          simp only [hlen5]
          clear h4 o4 HR2 HM2 HO2 HXB hr h0 hm4 hn5 hlen5
          go_wp2_with (fail)
          refine wp_region_quiet (C := fun w' => Only (fun _ => False) (w4.alloc (Obj.cells #[Value.int IntKind.i64 x1, Value.int IntKind.i64 x2] 40)) w') (by kernel_rfl) (by kernel_rfl) ((Only.refl _ _).drewN 1) ?_
          simp only []
          have hkk := heap_alloc_new w4 (Obj.cells #[Value.int IntKind.i64 x1, Value.int IntKind.i64 x2] 40)
          have hq0 : (w4.alloc (Obj.cells #[Value.int IntKind.i64 x1, Value.int IntKind.i64 x2] 40)).cell? ⟨rb, off2, none⟩ = some (.int .i64 x1) := ((Only.refl (fun _ => False) w4).alloc _).cell q0 id
          have hq1 : (w4.alloc (Obj.cells #[Value.int IntKind.i64 x1, Value.int IntKind.i64 x2] 40)).cell? ⟨rb, off2 + 1, none⟩ = some (.int .i64 x2) := ((Only.refl (fun _ => False) w4).alloc _).cell q1 id
          quiet_step ((intro _; rfl))
          quiet_step ((intro _; rfl))
          obtain ⟨hk0, hk1⟩ := two_cells hkk
          quiet_step ((intro ho; simp only [ho.cell hk0 id, ho.cell hk1 id, Result.andThen]; exact ⟨trivial, rfl⟩))
          quiet_step ((intro ho; refine (plain_at (x1, x2) _).mono ?_; rintro e w' ⟨rfl, o'⟩; exact ⟨rfl, ho.trans o' (fun _ _ h => h)⟩))
          quiet_step ((intro _; rfl))
          quiet_step ((intro _; rfl))
          quiet_step ((intro ho; simp only [ho.cell hq0 id, ho.cell hq1 id, Result.andThen]; exact ⟨trivial, rfl⟩))
          quiet_step ((intro _; rfl))
          quiet_step ((intro _; rfl))
          quiet_step ((intro _; rfl))
          refine wpQuiet_nil ?_
          intro w5 o5
          have O5 : Hid (Only (fun _ => False) w w5) := (O4.out.alloc _).trans o5 (fun _ _ h => h)
          have H5 : Hid (HRep w5 hb lb mb ((x1, x2) :: xs)) := (H4.out.only ((Only.refl (fun _ => False) w4).alloc _) id id id).only o5 id id id
          have m5 := (M4.out.only ((Only.refl (fun _ => False) w4).alloc (Obj.cells #[Value.int IntKind.i64 x1, Value.int IntKind.i64 x2] 40)) (fun _ => id)).only o5 (fun _ => id)
          have hf5 : Hid (rb ≠ hb ∧ rb ≠ lb ∧ rb ≠ mb) := hF
          have hs5 : n5 + 1 ≤ i + 1 := by have := HN5.out; simp at hs; omega
          have M5 := Lib.hid m5
          clear m5 o5 hk0 hk1 hq0 hq1 hkk q0 q1 H4 M4 O4 HF hlts
          go_wp2_with (fail)
          refine (h_len hb lb mb _ _ H5.out).mono ?_
          rintro e w9 ⟨rfl, rfl⟩
          rw [show ((x1, x2) :: xs).length = n5 + 1 by rw [HN5.out]; rfl]
          go_wp2_with (fail)
          go_roundw
          case rel => exact ⟨i + 1, lb, rb, (x1, x2) :: xs, by go_num, by omega, H5.out, M5.out, by rw [List.length_cons, ← HN5.out]; omega, hlb, fun _ => hf5.out, O5.out⟩
          case measure => simp [intOf]; omega
    · go_wp2
      go_ret
      exact ⟨rfl, HO.out⟩

end Go.Proofs.Ytnhiohgcoifniaa
