/- The contract of the heap's iterator. -/
import Derived.Test.YtnhiohgcoifniaaS4
import Derived.Deep.RegionHeld3
namespace Go.Proofs.Ytnhiohgcoifniaa
open Go.RowKit Go.Gav Go.BigFrame Go.Shelf
attribute [local go_sem] Oper.semAt_some

theorem rowE_cells {w : World} {t : TypeId} {lb : Nat} {v : Value} {L : List En} (h : RowE w t lb v L) : ∃ ao cap, v = .slice ao L.length cap ∧ CellsE w ao L ∧ ∀ k, ao = some ⟨k, 0, none⟩ → k = lb ∧ k < w.heap.size := by
  rcases h with ⟨hv, hL⟩ | ⟨cap, cur, hv, hg, hnc, hcm, hcs, ht⟩
  · subst hL
    exact ⟨none, 0, hv, fun h => by simp at h, fun k hk => by cases hk⟩
  · refine ⟨some ⟨lb, 0, none⟩, cap, hv, fun _ => ⟨lb, rfl, fun i hi => ?_⟩, fun k hk => by cases hk; exact ⟨rfl, lt_of_block hg⟩⟩
    have hq : ∀ j, j < L.length * 2 → cur[j]? = (flat L)[j]? := fun j hj => by
      rw [← ht, List.getElem?_take_of_lt hj, Array.getElem?_toList]
    have := flat_get L i hi
    rw [cell_of_row w lb (i * 2) _ _ _ hg, hq (i * 2) (by omega), cell_of_row w lb (i * 2 + 1) _ _ _ hg, hq (i * 2 + 1) (by omega)]
    exact this

theorem owns_cells {w : World} {B : Nat} {v : Value} {L : List En} (h : w.ownsRow B 40 2 v L.length (flat L)) : ∃ ao cap, v = .slice ao L.length cap ∧ CellsE w ao L ∧ ∀ k, ao = some ⟨k, 0, none⟩ → B ≤ k ∧ k < w.heap.size := by
  rcases h.2 with ⟨hv, hn⟩ | ⟨g, cap, cur, hv, hb, hg, hnc, hcm, hcs, ht⟩
  · refine ⟨none, 0, by rw [hv, hn], fun h => by omega, fun k hk => by cases hk⟩
  · refine ⟨some ⟨g, 0, none⟩, cap, hv, fun _ => ⟨g, rfl, fun i hi => ?_⟩, fun k hk => by cases hk; exact ⟨hb, lt_of_block hg⟩⟩
    have hq : ∀ j, j < L.length * 2 → cur[j]? = (flat L)[j]? := fun j hj => by
      rw [← ht, List.getElem?_take_of_lt hj, Array.getElem?_toList]
    have := flat_get L i hi
    rw [cell_of_row w g (i * 2) _ _ _ hg, hq (i * 2) (by omega), cell_of_row w g (i * 2 + 1) _ _ _ hg, hq (i * 2 + 1) (by omega)]
    exact this

theorem CellsE.kept {A B : Nat} {w w' : World} {ao : Option Addr} {L : List En} (h : CellsE w ao L) (ho : Kept A B w w') (hS : ∀ g, ao = some ⟨g, 0, none⟩ → A ≤ g ∧ g < B) : CellsE w' ao L := by
  intro h0
  obtain ⟨g, e, hc⟩ := h h0
  have hb := hS g e
  exact ⟨g, e, fun i hi => ⟨(World.cell?_of_block (ho _ hb.1 hb.2)).trans (hc i hi).1, (World.cell?_of_block (ho _ hb.1 hb.2)).trans (hc i hi).2⟩⟩

set_option maxRecDepth 100000 in
set_option maxHeartbeats 2000000 in
theorem hall_iter (bx hb lb mb : Nat) (S : List En) (w : World) (hbx : w.cell? ⟨bx, 0, none⟩ = some (.pointer (some ⟨hb, 0, none⟩))) (hq : HRep w hb lb mb S) :
    Iter Try.prog 33 #[.pointer (some ⟨bx, 0, none⟩)] encE S w := by
  intro l W hW R H
  obtain ⟨L, D, v, hA, -, hLS⟩ := hq.only hW id id id
  have hc := hW.cell hbx id
  obtain ⟨ao, cap, rfl, hce, hbk⟩ := rowE_cells hA.row
  have h0 : W.cell? ⟨hb, 0, none⟩ = some (.func (.func 10) #[] #[]) := by rw [cell_of_row W hb 0 _ _ _ hA.head]; rfl
  have h1 : W.cell? ⟨hb, 1, none⟩ = some (.slice ao L.length cap) := by rw [cell_of_row W hb 1 _ _ _ hA.head]; rfl
  have hn := hA.small
  have HCE := Lib.hid (And.intro hce hbk)
  have HLS := Lib.hid hLS
  have HLEN := Lib.hid (show S.length ≤ 1000 by have := hLS.len; omega)
  have HH := Lib.hid H
  clear hbx hq hW H w hA hce hbk hLS
  show Calls Try.prog 33 #[.func (.yield l) #[] #[], .pointer (some ⟨bx, 0, none⟩)] W _
  go_enter Try.func33, Try.ntmps33
  go_wp2_with (fail)
  go_region_held3 (fun w' => w'.cell? ⟨bx, 0, none⟩ = some (.pointer (some ⟨hb, 0, none⟩)) ∧ w'.cell? ⟨hb, 0, none⟩ = some (.func (.func 10) #[] #[]) ∧ w'.cell? ⟨hb, 1, none⟩ = some (.slice ao L.length cap))
    (first | exact ⟨hc, h0, h1⟩ | exact ⟨e0, e1, e2⟩ | exact ⟨o2.cell e0 id, o2.cell e1 id, o2.cell e2 id⟩)
    (first | (go_at_call 34; refine (sorted_at W.heap.size ao cap L S HLS.out w1 (HK1.out) (HCE.out.1.only HO1.out (fun _ _ => id)) (fun k hk => by have := (HCE.out.2 k hk).2; have := HO1.out.size; omega) hn).mono ?_; rintro _ w2 ⟨v2, rfl, hown, o2⟩; obtain ⟨ao2, cap2, rfl, hce2, hbk2⟩ := owns_cells hown; have HCE2 := Lib.hid (And.intro hce2 hbk2); clear hce2 hbk2 hown) | (go_at_call 35; refine (values_call (.slice ao L.length cap) ⟨_, _, _, rfl⟩ _).mono ?_; rintro _ w1 ⟨rfl, hw1⟩; have HO1 : Hid (Only (fun _ => False) W w1) := (by subst hw1; exact ((Only.refl _ _).drewN 1).alloc _); have HK1 : Hid (w1.cell? ⟨W.heap.size, 0, none⟩ = some (.slice ao L.length cap)) := (by subst hw1; exact cell_of_one (heap_alloc_new (W.drewN 1) _)); have e0 := HO1.out.cell hc id; have e1 := HO1.out.cell h0 id; have e2 := HO1.out.cell h1 id; clear hw1))
  have hO2 : Only (fun _ => False) W w2 := HO1.out.trans o2 (fun _ _ h => h)
  have hge : ∀ k, ao2 = some ⟨k, 0, none⟩ → W.heap.size ≤ k ∧ k < w2.heap.size := fun k hk => by
    have := HCE2.out.2 k hk
    have := HO1.out.size
    omega
  have HGE := Lib.hid hge
  have HC2 := Lib.hid HCE2.out.1
  obtain ⟨J, Jx, hJ0, hJs, hJxs, hY, hJd, hJxd⟩ := HH.out w2 hO2
  have HJ0 := Lib.hid hJ0
  have HJs := Lib.hid hJs
  have HY := Lib.hid hY
  have HJd := Lib.hid hJd
  have HJxd := Lib.hid hJxd
  have HSZ := Lib.hid hO2.size
  clear hJ0 hJs hJxs hY hJd hJxd HH hge hO2 HCE2 o2 e0 e1 e2 HO1 HK1 hc h0 h1 HCE HLS
  go_wp2_with (fail)
  go_loopw [18] (fun vi wr => ∃ i : Nat, i ≤ S.length ∧ vi = .int .i64 i ∧ Hid (J i wr) ∧ Hid (CellsE wr ao2 S) ∧ Hid (w2.heap.size ≤ wr.heap.size)) (fun vi _ => S.length - (intOf vi).toNat)
  case atStart => exact ⟨0, Nat.zero_le _, rfl, HJ0.out, HC2.out, Nat.le_refl _⟩
  case round =>
    clear HJ0 HC2
    obtain ⟨i, hi, rfl, HJ, HR, HZ⟩ := hrel
    have hs1000 := HLEN.out
    by_cases hlt : i < S.length
    · obtain ⟨g, rfl, hcell⟩ := HR.out (by omega)
      obtain ⟨x, hx⟩ : ∃ x, x = atE S i := ⟨_, rfl⟩
      have d0 : wr.cell? ⟨g, i * 2, none⟩ = some (.int .i64 x.1) := by rw [hx]; exact (hcell i hlt).1
      have d1 : wr.cell? ⟨g, i * 2 + 1, none⟩ = some (.int .i64 x.2) := by rw [hx]; exact (hcell i hlt).2
      have o3 : ∀ S, Only S wr (wr.alloc (Obj.cells #[Value.int .i64 x.1, .int .i64 x.2] 40)) := fun S => (Only.refl _ _).alloc _
      obtain ⟨z0, z1⟩ := two_cells (heap_alloc_new wr (Obj.cells #[Value.int .i64 x.1, .int .i64 x.2] 40))
      obtain ⟨fn, tmps, assign, body, hy, hR⟩ := HY.out i hlt _ (HJs.out i wr _ HJ.out (o3 _))
      have hxi : S[i] = x := by rw [hx]; simp [atE, List.getD_eq_getElem?_getD, hlt]
      rw [hxi] at hy
      simp only [encE] at hy
      have HRR := Lib.hid hR
      have HO3 := Lib.hid (o3 (fun _ => False))
      clear hcell hR hxi hx o3
      go_upto_region 4 with fail
      refine (wpIn_wide (n := 0)).1 ?_
      gi_wp2
      refine ⟨rfl, HRR.out.mono ?_⟩
      rintro e W3 (⟨rfl, hk3, hj3⟩ | ⟨rfl, hx3⟩)
      · have HJ3 := Lib.hid hj3
        have hz0 := HZ.out
        have hz1 := HO3.out.size
        have HR3 := Lib.hid ((HR.out.only HO3.out (fun _ _ => id)).kept hk3 HGE.out)
        have hlt3 : w2.heap.size ≤ W3.heap.size := by
          rcases Nat.lt_or_ge W.heap.size w2.heap.size with h | h
          · have e := hk3 (w2.heap.size - 1) (by omega) (by omega)
            have hlt2 : w2.heap.size - 1 < (wr.alloc (Obj.cells #[Value.int .i64 x.1, .int .i64 x.2] 40)).heap.size := by simp; omega
            rw [Array.getElem?_eq_getElem hlt2] at e
            have := (Array.getElem?_eq_some_iff.1 e).1
            omega
          · have := HGE.out g rfl
            omega
        have HZ3 := Lib.hid hlt3
        clear hk3 hj3 hy HRR hz0 hz1 hlt3
        gi_wp2
        go_wp2
        go_roundw
        case rel => exact ⟨i + 1, by omega, by go_num, HJ3, HR3, HZ3⟩
        case measure => simp [intOf]; omega
      · have HX3 := Lib.hid hx3
        clear hx3 hy HRR
        gi_wp2
        go_wp2
        exact bodyPost_ret (results_none rfl _ _ _) rfl ⟨⟨_, rfl⟩, HJxd.out _ HX3.out⟩
    · obtain rfl : i = S.length := by omega
      go_wp2
      go_end0
      exact ⟨⟨_, rfl⟩, HJd.out _ HJ.out⟩

end Go.Proofs.Ytnhiohgcoifniaa
