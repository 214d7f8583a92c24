/- The walk of the law BagOrder. -/
import Derived.Test.YtofachfbphinaaaApp
namespace Go.Proofs.Ytofachfbphinaaa
open Go.RowKit Go.Gav Go.BigFrame

theorem newI_n (l : List Int) (ao : Option Addr) (n cap : Nat) (w : World) (e : n = l.length) (hl : ArgI w (fun _ => False) ao l) (hn : n ≤ 1000) :
    Calls Try.prog 10 #[.func (.func 11) #[] #[], .slice ao n cap] w fun e w' => ∃ v', e = .returned (.pointer (some ⟨w.heap.size, 0, none⟩)) ∧ BagI w' w.heap.size v' (sortI l) ∧ Only (fun _ => False) w w' := by
  subst e
  exact (newI l ao cap w hl hn).mono (fun _ _ ⟨v', h1, h2, h3, _⟩ => ⟨v', h1, h2, h3⟩)

theorem sameI_yes (a b : Nat) (va vb : Value) (xs : List Int) (w : World) (ha : BagI w a va xs) (hb : BagI w b vb xs) (hn : xs.length ≤ 1000) :
    Calls Try.prog 12 #[.pointer (some ⟨a, 0, none⟩), .pointer (some ⟨b, 0, none⟩)] w fun e w' => e = .returned (.bool true) ∧ Only (fun _ => False) w w' :=
  (sameI a b va vb xs xs w ha hb hn).mono (fun _ _ h => ⟨by rw [h.1, decide_eq_true rfl], h.2⟩)

theorem lenI_n (b : Nat) (v : Value) (xs : List Int) (n : Nat) (w : World) (h : BagI w b v xs) (e : n = xs.length) : Calls Try.prog 14 #[.pointer (some ⟨b, 0, none⟩)] w fun e w' => e = .returned (.int .i64 n) ∧ w' = w := by
  subst e
  exact lenI b v xs w h

theorem mergeI_s (a b : Nat) (va vb : Value) (l x y : List Int) (w : World) (ha : BagI w a va (sortI x)) (hb : BagI w b vb (sortI y)) (h : l.Perm (x ++ y)) (hn : l.length ≤ 1000) :
    Calls Try.prog 13 #[.pointer (some ⟨a, 0, none⟩), .pointer (some ⟨b, 0, none⟩)] w fun e w' => ∃ v', e = .returned (.pointer (some ⟨w.heap.size, 0, none⟩)) ∧ BagI w' w.heap.size v' (sortI l) ∧ Only (fun _ => False) w w' := by
  refine (mergeI a b va vb _ _ w ha hb (by rw [sortI_length, sortI_length]; have := h.length_eq; rw [List.length_append] at this; omega)).mono (fun _ _ ⟨v', h1, h2, h3, _⟩ => ⟨v', h1, ?_, h3⟩)
  rwa [merge_sort h] at h2

theorem argI_sub {w : World} {g n : Nat} {cur : Array Value} {L : List Int} (hg : w.heap[g]? = some (.cells cur 3 (0, 0))) (ht : cur.toList.take n = flatI L) (hl : L.length = n) (o m : Nat) (h : o + m ≤ n) : ArgI w (fun _ => False) (some ⟨g, o, none⟩) ((L.drop o).take m) := by
  intro _
  refine ⟨g, o, rfl, id, fun i hi => ?_⟩
  rw [List.length_take, List.length_drop] at hi
  have hlt : o + i < n := by omega
  have e : cur.toList[o + i]? = (cur.toList.take n)[o + i]? := (List.getElem?_take_of_lt hlt).symm
  rw [cell_of_row w g _ _ _ _ hg, ← Array.getElem?_toList, e, ht, flatI_get L (o + i) (by omega)]
  simp [List.getD_eq_getElem?_getD, List.getElem?_take, List.getElem?_drop, (show i < m by omega)]

theorem row_some {w : World} {B e n cap : Nat} {ao : Option Addr} {xs : List Value} (h : w.ownsRow B e 1 (.slice ao n cap) n xs) (hn : 0 < n) :
    ∃ g cur, ao = some ⟨g, 0, none⟩ ∧ (B ≤ g ∧ n ≤ cap ∧ cap ≤ maxLen) ∧ w.heap[g]? = some (.cells cur e (0, 0)) ∧ cur.size = cap ∧ cur.toList.take n = xs := by
  rcases h.2 with ⟨hv, h0⟩ | ⟨g, cap', cur, hv, hb, hg, hnc, hcm, hcs, ht⟩
  · omega
  · injection hv with e1 e2 e3
    subst e1
    subst e3
    rw [Nat.mul_one] at hcs ht
    exact ⟨g, cur, rfl, ⟨hb, hnc, hcm⟩, hg, hcs, ht⟩

theorem row_cell {w : World} {g n j : Nat} {cur : Array Value} {L : List Int} (hg : w.heap[g]? = some (.cells cur 3 (0, 0))) (ht : cur.toList.take n = flatI L) (hl : L.length = n) (hj : j < n) : w.cell? ⟨g, j, none⟩ = some (.int .i64 (L.getD j 0)) := by
  rw [cell_of_row w g j _ _ _ hg, ← flatI_get L j (by omega), ← ht, List.getElem?_take_of_lt hj, Array.getElem?_toList]

theorem row_swap {w : World} {g n p q B cap : Nat} {va vb : Int} {cur : Array Value} {L : List Int} (hg : w.heap[g]? = some (.cells cur 3 (0, 0))) (ht : cur.toList.take n = flatI L) (hl : L.length = n) (hp : p < n) (hq : q < n) (hcs : cur.size = cap)
    (hB : B ≤ g ∧ n ≤ cap ∧ cap ≤ maxLen) (hv : va = L.getD p 0 ∧ vb = L.getD q 0) :
    ((w.setCell ⟨g, p, none⟩ (.int .i64 vb)).setCell ⟨g, q, none⟩ (.int .i64 va)).ownsRow B 3 1 (.slice (some ⟨g, 0, none⟩) n cap) n (flatI ((L.set p vb).set q va)) ∧ ((L.set p vb).set q va).Perm L := by
  constructor
  · refine ⟨by rw [flatI_length]; simp [hl], .inr ⟨g, cap, _, rfl, hB.1, hp_same (hp_same hg _) _, hB.2.1, hB.2.2, by simp [hcs], ?_⟩⟩
    rw [Nat.mul_one, Array.toList_setIfInBounds, Array.toList_setIfInBounds, List.take_set, List.take_set, ht, flatI_map, flatI_map, List.map_set, List.map_set]
  · have e1 : va = L[p] := by rw [hv.1]; simp [List.getD_eq_getElem?_getD, hl, hp]
    have e2 : vb = L[q] := by rw [hv.2]; simp [List.getD_eq_getElem?_getD, hl, hq]
    rw [e1, e2]
    exact List.set_set_perm (by omega) (by omega)

set_option maxRecDepth 100000 in
set_option maxHeartbeats 4000000 in
theorem order_walk_pos (a : Option Addr) (len cap : Nat) (l : List Int) (a1 : Option Addr) (len1 cap1 : Nat) (Y : Nat → Int) (cut : Int) (w : World) (hl : IsInts w a len l) (hy : IsBytes w a1 len1 Y) (hc0 : 0 ≤ cut) (hc1 : cut ≤ 255) (h1 : len ≤ 200) (h2 : len1 ≤ 200) (hz : 0 < len) :
    Calls Try.prog 3 #[.slice a len cap, .slice a1 len1 cap1, .int .u8 cut] w fun e w' => e = .returned (.bool true) ∧ Only (fun _ => False) w w' := by
  obtain ⟨i0, hi0, hz0, hz1, hz2⟩ := info_parts info3
  have HL := Lib.hid hl
  have HY := Lib.hid hy
  clear hl hy
  have hg1 : ¬ ((len : Int) > 200) := by omega
  have hg2 : ¬ ((len1 : Int) > 200) := by omega
  go_enter Try.func3, Try.ntmps3
  go_wp2_with (first | (go_at_call 9; refine (awake_at _).mono ?_; rintro _ w1 ⟨rfl, o1⟩; have O1 := Lib.hid o1; clear o1) | (at_builtin; go_loud (refine wpList_append_any rfl (.tmp 30) (.tmp 31) 22 rfl w1.heap.size 3 i0 (.int .i64 0) 1 8 Try.underlying22 hi0 hz0 hz1 hz2 rfl (by decide) _ 0 [] rfl (World.ownsRow_made w1 #[] 0 (Nat.le_refl _) (by simp [maxLen]) rfl) a len cap (flatI l) rfl (by rw [flatI_length, HL.out.1]) (ints_lie HL.out (O1.out.alloc _) (fun _ _ h => h)) flatI_one (by unfold maxLen; omega) (by omega) (by simp) ?_; intro v w2 own2 gr2; obtain ⟨ao, capm, rfl⟩ := row_slice (row_base (Nat.zero_le _) own2); rw [Nat.zero_add] at own2 ⊢; have OW := Lib.hid own2; have O2 := Lib.hid ((O1.out.alloc _).grown gr2 (fun k hk => .inr (by have := O1.out.size; have := Option.some.inj hk; simp at this; omega))); clear own2 gr2)))
  go_loopw [8] (fun vi wr => ∃ (i : Nat) (L : List Int), vi = .int .i64 i ∧ i ≤ len1 ∧ Hid (L.Perm l) ∧ Hid (wr.ownsRow w1.heap.size 3 1 (.slice ao len capm) len (flatI L)) ∧ Hid (Only (fun _ => False) w wr)) (fun vi _ => len1 - (intOf vi).toNat)
  case atStart => exact ⟨0, l, rfl, Nat.zero_le _, List.Perm.refl _, OW.out, O2.out⟩
  case round =>
    obtain ⟨i, L, rfl, hil, HP, HR, HO⟩ := hrel
    by_cases hlt : i < len1
    · have hLl : L.length = len := by rw [HP.out.length_eq, HL.out.1]
      obtain ⟨g, cur, rfl, hB, hg, hcs, ht⟩ := row_some HR.out hz
      obtain ⟨b1, off1, rfl, hby⟩ := HY.out (by omega)
      obtain ⟨hb, hy0, hy1⟩ := hby i hlt
      obtain ⟨y, hy⟩ := Int.eq_ofNat_of_zero_le hy0
      rw [hy] at hb hy1
      have hy2 : y ≤ 255 := by omega
      have hb' := HO.out.cell hb id
      have hp : i % len < len := Nat.mod_lt _ hz
      have hq : y % len < len := Nat.mod_lt _ hz
      obtain ⟨va, hva⟩ : ∃ va, va = L.getD (i % len) 0 := ⟨_, rfl⟩
      obtain ⟨vb, hvb⟩ : ∃ vb, vb = L.getD (y % len) 0 := ⟨_, rfl⟩
      have ca : wr.cell? ⟨g, i % len, none⟩ = some (.int .i64 va) := by rw [hva]; exact row_cell hg ht hLl hp
      have cb : wr.cell? ⟨g, y % len, none⟩ = some (.int .i64 vb) := by rw [hvb]; exact row_cell hg ht hLl hq
      have fz : ∀ j, wr.frozen? ⟨g, j, none⟩ = false := fun j => free_of_row hg
      have hg2 : (wr.setCell ⟨g, i % len, none⟩ (.int .i64 vb)).heap[g]? = some (.cells (cur.setIfInBounds (i % len) (.int .i64 vb)) 3 (0, 0)) := hp_same hg _
      have f2 := free_of_row (j := y % len) hg2
      obtain ⟨u2, c2⟩ : ∃ u2, (wr.setCell ⟨g, i % len, none⟩ (.int .i64 vb)).cell? ⟨g, y % len, none⟩ = some u2 := cell?_setCell_some (w := wr) cb
      have HSW := Lib.hid (row_swap (w := wr) hg ht hLl hp hq hcs hB (And.intro hva hvb))
      have HLL := Lib.hid hLl
      have HNEW := Lib.hid (show w.heap.size ≤ g from Nat.le_trans O1.out.size hB.1)
      clear hby hb hy hva hvb hg hg2 ht hcs hLl hy0 hy1 hB
      have hz1 : ¬ len = 0 := by omega
      have hz2 : ¬ (len : Int) = 0 := by omega
      go_wp2_with (fail)
      go_region_held3 (fun w' => w'.cell? ⟨b1, off1 + i, none⟩ = some (.int .u8 y)) (exact hb') (fail)
      all_goals go_wp2_with (fail)
      all_goals go_roundw
      all_goals (first | (exact ⟨i + 1, (L.set (i % len) vb).set (y % len) va, by go_num, by omega, HSW.out.2.trans HP.out, HSW.out.1, (((HO.out.setCell (p := ⟨g, i % len, none⟩) (.inr (HNEW.out)) _).setCell (p := ⟨g, y % len, none⟩) (.inr (HNEW.out)) _).drew)⟩) | (simp [intOf]; omega))
    · obtain rfl : i = len1 := by omega
      have hLl : L.length = len := by rw [HP.out.length_eq, HL.out.1]
      obtain ⟨g, cur, rfl, hB, hg, hcs, ht⟩ := row_some HR.out hz
      obtain ⟨cn, rfl⟩ := Int.eq_ofNat_of_zero_le hc0
      have hcn : cn ≤ 255 := by omega
      have hkl : cn % len < len := Nat.mod_lt _ hz
      have hkc : ¬ capm = cn % len := by omega
      have hk8 : cn % len ≤ capm := by omega
      have HLL := Lib.hid hLl
      have HSUB := Lib.hid (fun W (hW : Only (fun _ => False) wr W) o m (hom : o + m ≤ len) => argI_sub (w := W) (hW.keep hg id) ht hLl o m hom)
      have HSL := Lib.hid (sortI_of_perm HP.out.symm)
      have HTD := Lib.hid (show l.Perm (L.take (cn % len) ++ L.drop (cn % len)) by rw [List.take_append_drop]; exact HP.out.symm)
      clear hLl hB hg hcs ht hc0 hc1
      go_wp2_with (fail)
      refine (newI_n l a len cap wr HL.out.1 (HL.out.2.only HO.out (fun _ _ _ h => h)) (by omega)).mono ?_
      rintro _ w3 ⟨vx, rfl, hx, o3⟩
      have O3 := Lib.hid o3
      have HX := Lib.hid (fun W (h : Only (fun _ => False) w3 W) => hx.only h id (fun _ _ => id))
      clear hx o3
      go_wp2_with (fail)
      refine (newI_n L (some ⟨g, 0, none⟩) len capm w3 HLL.out.symm (by have := HSUB.out w3 O3.out 0 len (by omega); rwa [List.drop_zero, List.take_of_length_le (by rw [HLL.out]; exact Nat.le_refl _)] at this) (by omega)).mono ?_
      rintro _ w4 ⟨vy, rfl, hy, o4⟩
      have O4 := Lib.hid o4
      have HYB := Lib.hid (fun W (h : Only (fun _ => False) w4 W) => HSL.out ▸ hy.only h id (fun _ _ => id))
      clear hy o4
      go_wp2_with (fail)
      refine (newI_n (L.take (cn % len)) (some ⟨g, 0, none⟩) (cn % len) capm w4 (by rw [List.length_take, HLL.out]; omega) (by have := HSUB.out w4 (O3.out.trans O4.out (fun _ _ h => h)) 0 (cn % len) (by omega); rwa [List.drop_zero] at this) (by omega)).mono ?_
      rintro _ w5 ⟨va, rfl, ha, o5⟩
      have O5 := Lib.hid o5
      have HAB := Lib.hid (fun W (h : Only (fun _ => False) w5 W) => ha.only h id (fun _ _ => id))
      clear ha o5
      go_wp2_with (fail)
      refine (newI_n (L.drop (cn % len)) (some ⟨g, cn % len, none⟩) (len - cn % len) (capm - cn % len) w5 (by rw [List.length_drop, HLL.out]) (by have := HSUB.out w5 ((O3.out.trans O4.out (fun _ _ h => h)).trans O5.out (fun _ _ h => h)) (cn % len) (len - cn % len) (by omega); rwa [List.take_of_length_le (by rw [List.length_drop, HLL.out]; exact Nat.le_refl _)] at this) (by omega)).mono ?_
      rintro _ w6 ⟨vb, rfl, hb, o6⟩
      have O6 := Lib.hid o6
      have HBB := Lib.hid (fun W (h : Only (fun _ => False) w6 W) => hb.only h id (fun _ _ => id))
      clear hb o6
      have HN := Lib.hid (show (sortI l).length ≤ 1000 by rw [sortI_length]; have := HL.out.1; omega)
      go_wp2_with (fail)
      refine (sameI_yes _ _ vx vy (sortI l) w6 (HX.out _ ((O4.out.trans O5.out (fun _ _ h => h)).trans O6.out (fun _ _ h => h))) (HYB.out _ (O5.out.trans O6.out (fun _ _ h => h))) HN.out).mono ?_
      rintro _ w7 ⟨rfl, o7⟩
      have O7 := Lib.hid o7
      clear o7
      go_wp2_with (fail)
      refine (mergeI_s _ _ va vb l _ _ w7 (HAB.out _ (O6.out.trans O7.out (fun _ _ h => h))) (HBB.out _ O7.out) HTD.out (by have := HL.out.1; omega)).mono ?_
      rintro _ w8 ⟨vm, rfl, hm, o8⟩
      have O8 := Lib.hid o8
      have HM := Lib.hid hm
      clear hm o8
      have O48 := Lib.hid ((((O4.out.trans O5.out (fun _ _ h => h)).trans O6.out (fun _ _ h => h)).trans O7.out (fun _ _ h => h)).trans O8.out (fun _ _ h => h))
      go_wp2_with (fail)
      refine (sameI_yes _ _ vx vm (sortI l) w8 (HX.out _ O48.out) HM.out HN.out).mono ?_
      rintro _ w9 ⟨rfl, o9⟩
      have O9 := Lib.hid o9
      clear o9
      go_wp2_with (fail)
      refine (mergeI_s _ _ vb va l _ _ w9 (HBB.out _ ((O7.out.trans O8.out (fun _ _ h => h)).trans O9.out (fun _ _ h => h))) (HAB.out _ (((O6.out.trans O7.out (fun _ _ h => h)).trans O8.out (fun _ _ h => h)).trans O9.out (fun _ _ h => h))) (HTD.out.trans List.perm_append_comm) (by have := HL.out.1; omega)).mono ?_
      rintro _ w10 ⟨vm2, rfl, hm, o10⟩
      have O10 := Lib.hid o10
      have HM2 := Lib.hid hm
      clear hm o10
      have O410 := Lib.hid ((O48.out.trans O9.out (fun _ _ h => h)).trans O10.out (fun _ _ h => h))
      go_wp2_with (fail)
      refine (sameI_yes _ _ vm2 vy (sortI l) w10 HM2.out (HYB.out _ (((((O5.out.trans O6.out (fun _ _ h => h)).trans O7.out (fun _ _ h => h)).trans O8.out (fun _ _ h => h)).trans O9.out (fun _ _ h => h)).trans O10.out (fun _ _ h => h))) HN.out).mono ?_
      rintro _ w11 ⟨rfl, o11⟩
      have O11 := Lib.hid (O410.out.trans o11 (fun _ _ h => h))
      clear o11
      go_wp2_with (fail)
      refine (lenI_n _ vx (sortI l) len w11 (HX.out _ O11.out) (by rw [sortI_length]; exact HL.out.1)).mono ?_
      rintro _ _ ⟨rfl, rfl⟩
      go_wp2_with (fail)
      go_ret
      exact ⟨rfl, (HO.out.trans O3.out (fun _ _ h => h)).trans O11.out (fun _ _ h => h)⟩

end Go.Proofs.Ytofachfbphinaaa
