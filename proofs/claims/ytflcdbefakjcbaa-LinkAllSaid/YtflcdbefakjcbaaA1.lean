/- The contracts of slices.Clone at []int and of the queue's iterator. -/
import Derived.Test.YtflcdbefakjcbaaQ6
import Derived.Test.YtflcdbefakjcbaaRegIn
import Derived.Test.YtflcdbefakjcbaaRng
import Derived.Deep.AppendLies
import Derived.WalkSpells
namespace Go.Proofs.Ytflcdbefakjcbaa
open Go.RowKit Go.Gav Go.BigFrame

theorem clone_nil (w : World) : Calls Try.prog 39 #[.slice none 0 0] w fun e w' => e = .returned (.slice none 0 0) ∧ w' = w := by
  have hen := fun (w : World) => Lib.run_eql_slice_nil (P := Try.prog) w 36 3 none 0 0 0 0 Try.underlying36
  go_enter Try.func39, Try.ntmps39
  go_wp2
  go_ret
  exact ⟨rfl, rfl⟩

theorem addr0 (b j : Nat) : (⟨b, 0, none⟩ : Addr).add j = ⟨b, j, none⟩ := by unfold Addr.add; split <;> simp_all

set_option maxRecDepth 100000 in
theorem clone_some (rb L cap : Nat) (zs : List Int) (w : World) (HG : Hid (w.heap[rb]? = some (.cells (ints zs) 3 (0, 0)))) (HL : Hid (L = zs.length)) (h0 : 0 < L) (hb : L ≤ 16777216) :
    Calls Try.prog 39 #[.slice (some ⟨rb, 0, none⟩) L cap] w fun e w' => ∃ g c cur, e = .returned (.slice (some ⟨g, 0, none⟩) L c) ∧ w.heap.size ≤ g ∧ w'.heap[g]? = some (.cells cur 3 (0, 0)) ∧
      (∀ i, i < L → cur[i]? = some (.int .i64 (zs.getD i 0))) ∧ Only (fun _ => False) w w' := by
  obtain ⟨i0, hi, hz0, hz1, hz2⟩ := info_parts info3
  have hen := fun (w : World) => Lib.run_eql_slice_nil (P := Try.prog) w 36 3 (some ⟨rb, 0, none⟩) L cap 0 0 Try.underlying36
  go_enter Try.func39, Try.ntmps39
  have HN : ∀ j u, (zs.map (Value.int .i64))[j]? = some u → (w.alloc (Obj.cells #[] 3)).cell? ((⟨rb, 0, none⟩ : Addr).add j) = some u := by
    intro j u hj
    have hlt : j < zs.length := by
      have := (List.getElem?_eq_some_iff.1 hj).1
      simpa using this
    rw [addr0, cell_ints (hp_alloc HG.out _) hlt]
    simp at hj
    obtain ⟨y, h1, h2⟩ := hj
    simp [h1, h2]
  have HNH := Lib.hid HN
  clear HN
  go_wp2_with (at_builtin; refine wpList_append_lies _ rfl (.tmp 5) (.tmp 6) 36 rfl w.heap.size 3 i0 (.int .i64 0) 1 8 Try.underlying36 hi hz0 hz1 hz2 rfl (by decide) _ 0 [] rfl (World.ownsRow_made w #[] 0 (Nat.le_refl _) (by simp [maxLen]) rfl) ⟨rb, 0, none⟩ L cap (zs.map (Value.int .i64)) rfl (by rw [HL.out]; simp) HNH.out (by simp [Value.oneCell']) h0 (by unfold maxLen; omega) (by omega) (by simp) _ rfl ?_; intro g c w1 hown hgrow hat hlt)
  go_ret
  refine ⟨g, c, ?_⟩
  rcases hown.2 with ⟨hv, _⟩ | ⟨g', cap', cur, hv, hbg, hgg, hn, _, hsz, htake⟩
  · cases hv
  · cases hv
    refine ⟨cur, by simp, hbg, hgg, fun j hj => ?_, ?_⟩
    · have hz : j < zs.length := by have := HL.out; omega
      have e1 : (cur.toList.take ((0 + L) * 1))[j]? = (([] : List Value) ++ zs.map (Value.int .i64))[j]? := by rw [htake]
      rw [List.getElem?_take, if_pos (by omega)] at e1
      rw [← Array.getElem?_toList, e1]
      simp [hz]
    · exact ((Only.refl (fun _ => False) w).alloc _).grown hgrow (fun k hk => .inr (by cases hk; exact Nat.le_refl _))

theorem all_call (q : Option Addr) (w : World) :
    Calls Try.prog 21 #[.pointer q] w fun e w' => e = .returned (.func (.func 38) #[] #[.pointer (some ⟨w.heap.size, 0, none⟩)]) ∧ w' = w.alloc (.cells #[.pointer q] 24) := by
  go_enter Try.func21, Try.ntmps21
  go_wp2
  go_ret
  exact ⟨rfl, rfl⟩

/-- The items with their places. -/
def places (xs : List Int) : List (Nat × Int) := (List.range xs.length).map fun i => (i, xs.getD i 0)
theorem places_length (xs : List Int) : (places xs).length = xs.length := by simp [places]
theorem places_get (xs : List Int) (i : Nat) (h : i < (places xs).length) : (places xs)[i] = (i, xs.getD i 0) := by simp [places]
/-- What a round is handed. -/
def encP (p : Nat × Int) : Array Value := #[.int .i64 p.1, .int .i64 p.2]

theorem all_iter_nil (bx : Nat) (w : World) (hbx : w.cell? ⟨bx, 0, none⟩ = some (.pointer none)) : Iter Try.prog 38 #[.pointer (some ⟨bx, 0, none⟩)] encP (places []) w := by
  intro l W hW R H
  have hc := hW.cell hbx id
  obtain ⟨J, Jx, h0, _, _, _, h1, _⟩ := H W (Only.refl _ _)
  have HR := Lib.hid (h1 W h0)
  clear H h0 h1
  show Calls Try.prog 38 #[.func (.yield l) #[] #[], .pointer (some ⟨bx, 0, none⟩)] W _
  go_enter Try.func38, Try.ntmps38
  go_wp2
  exact bodyPost_ret (results_none rfl _ _ _) rfl ⟨⟨_, rfl⟩, HR.out⟩

set_option maxRecDepth 100000 in
set_option maxHeartbeats 1000000 in
theorem all_iter (bx b rb room : Nat) (xs : List Int) (w : World) (hbx : w.cell? ⟨bx, 0, none⟩ = some (.pointer (some ⟨b, 0, none⟩))) (hq : QRep w b rb room xs) (h0 : 0 < xs.length) :
    Iter Try.prog 38 #[.pointer (some ⟨bx, 0, none⟩)] encP (places xs) w := by
  intro l W hW R H
  have hc := hW.cell hbx id
  obtain ⟨zs, fr, ha, hx⟩ := hq.only hW id id
  obtain ⟨c0, c1, c2, c3, cf⟩ := ha.cells
  have hle := ha.le
  obtain ⟨hr, hne, hf⟩ := ha.ring (by omega)
  have hfit := ha.fit
  have hhi := ha.hi
  rw [ringV, if_neg (by omega)] at c0
  have HX := Lib.hid hx
  have HR := Lib.hid hr
  have HH := Lib.hid H
  have HA := Lib.hid ha
  have l1 := World.block_lt_of_cell? W _ hc
  have l2 := ha.lt.1
  have l2' := ha.lt.2
  have hne' : b ≠ rb := fun e => hne e.symm
  clear hbx hq hW hx H w hr ha
  show Calls Try.prog 38 #[.func (.yield l) #[] #[], .pointer (some ⟨bx, 0, none⟩)] W _
  go_enter Try.func38, Try.ntmps38
  go_wp2_with (fail)
  have HZ := Lib.hid (And.intro hne' l2')
  refine (clone_some rb zs.length zs.length zs _ (hp_alloc HR.out _) rfl (by omega) (by omega)).mono ?_
  rintro e w1 ⟨g, cp, cur, rfl, hg1, hg2, hcur, o1⟩
  have k1 : w1.heap[W.heap.size]? = some (.cells #[.slice (some ⟨rb, 0, none⟩) zs.length zs.length, .int .i64 fr, .int .i64 xs.length, .int .i64 room] 81 (0, 0)) := o1.keep (heap_alloc_new W _) id
  have f1 : ∀ j, w1.frozen? ⟨W.heap.size, j, none⟩ = false := fun j => free_of_row k1
  have d1 : w1.cell? ⟨W.heap.size, 0, none⟩ = some (.slice (some ⟨rb, 0, none⟩) zs.length zs.length) := by rw [cell_of_row w1 _ _ _ _ _ k1]; rfl
  have d2 : w1.cell? ⟨W.heap.size, 2, none⟩ = some (.int .i64 xs.length) := by rw [cell_of_row w1 _ _ _ _ _ k1]; rfl
  have K1 := Lib.hid k1
  have G2 := Lib.hid (And.intro hg2 hcur)
  have O1 := Lib.hid o1
  have G1 : W.heap.size + 1 ≤ g := by simpa using hg1
  clear k1 hg1 hg2 hcur o1
  go_wp2_with (fail)
  have hgA : g ≠ W.heap.size := by omega
  have q1 : (w1.setCell ⟨W.heap.size, 0, none⟩ (.slice (some ⟨g, 0, none⟩) zs.length cp)).heap[W.heap.size]? = some (.cells #[.slice (some ⟨g, 0, none⟩) zs.length cp, .int .i64 fr, .int .i64 xs.length, .int .i64 room] 81 (0, 0)) := by
    have := hp_same (j := 0) K1.out (.slice (some ⟨g, 0, none⟩) zs.length cp)
    simpa using this
  have q2 : (w1.setCell ⟨W.heap.size, 0, none⟩ (.slice (some ⟨g, 0, none⟩) zs.length cp)).heap[g]? = some (.cells cur 3 (0, 0)) := hp_other G2.out.1 hgA _
  have q3 : Only (fun _ => False) W (w1.setCell ⟨W.heap.size, 0, none⟩ (.slice (some ⟨g, 0, none⟩) zs.length cp)) :=
    (((Only.refl (fun _ => False) W).alloc _).trans O1.out (fun _ _ h => h)).setCell (.inr (Nat.le_refl _)) _
  have CU := Lib.hid G2.out.2
  clear d1 d2 f1 K1 G2 O1 c0 c1 c2 c3 cf hc
  generalize w1.setCell ⟨W.heap.size, 0, none⟩ (.slice (some ⟨g, 0, none⟩) zs.length cp) = W0 at *
  obtain ⟨J, Jx, hJ0, hJs, hJxs, hY, hJd, hJxd⟩ := HH.out W0 q3
  have HJ0 := Lib.hid hJ0
  have HJs := Lib.hid hJs
  have HJxs := Lib.hid hJxs
  have HY := Lib.hid hY
  have HJd := Lib.hid hJd
  have HJxd := Lib.hid hJxd
  have Q1 := Lib.hid q1
  have Q2 := Lib.hid q2
  have gA := lt_of_block q1
  have gB := lt_of_block q2
  clear hJ0 hJs hJxs hY hJd hJxd q1 q2 q3 HH w1
  go_loopw [18] (fun vi wr => ∃ i : Nat, i ≤ xs.length ∧ vi = .int .i64 i ∧ J i wr ∧ wr.heap[W.heap.size]? = some (.cells #[.slice (some ⟨g, 0, none⟩) zs.length cp, .int .i64 fr, .int .i64 xs.length, .int .i64 room] 81 (0, 0)) ∧ wr.heap[g]? = some (.cells cur 3 (0, 0)))
    (fun vi _ => xs.length - (intOf vi).toNat)
  case atStart => exact ⟨0, Nat.zero_le _, rfl, HJ0.out, Q1.out, Q2.out⟩
  case round =>
    clear Q1 Q2 HJ0
    obtain ⟨i, hi, rfl, hj, k1, k2⟩ := hrel
    have HJ := Lib.hid hj
    have K1 := Lib.hid k1
    have K2 := Lib.hid k2
    have d0 : wr.cell? ⟨W.heap.size, 0, none⟩ = some (.slice (some ⟨g, 0, none⟩) zs.length cp) := by rw [cell_of_row wr _ _ _ _ _ k1]; rfl
    have d1 : wr.cell? ⟨W.heap.size, 1, none⟩ = some (.int .i64 fr) := by rw [cell_of_row wr _ _ _ _ _ k1]; rfl
    clear hj k1 k2
    by_cases hlt : i < xs.length
    · have hm : (fr + i) % zs.length < zs.length := Nat.mod_lt _ (by omega)
      have ex : xs.getD i 0 = zs.getD ((fr + i) % zs.length) 0 := by rw [HX.out, ringItems_getD _ _ _ _ hlt]
      have d2 : wr.cell? ⟨g, (fr + i) % zs.length, none⟩ = some (.int .i64 (xs.getD i 0)) := by rw [ex, cell_of_row wr _ _ _ _ _ K2.out]; exact CU.out _ hm
      clear ex
      obtain ⟨xi, hxi⟩ : ∃ xi, xi = xs.getD i 0 := ⟨_, rfl⟩
      rw [← hxi] at d2
      have HXI := Lib.hid hxi
      clear hxi
      have b1 : (0 : Int) ≤ ((fr : Int) + (i : Int)) % (zs.length : Int) := Int.emod_nonneg _ (by omega)
      have b2 : ((fr : Int) + (i : Int)) % (zs.length : Int) < (zs.length : Int) := Int.emod_lt_of_pos _ (by omega)
      go_wp2
      refine (wpIn_wide (n := 0)).1 ?_
      refine wpIn_region_mixed [] [0, 1, 2, 3, 4, 5, 6, 7] 8 [9] (by kernel_rfl) (by kernel_rfl) (fun _ _ _ _ h => h) ?_
      simp only [pick, consO, List.getElem?_toArray, List.getElem?_cons_succ, List.getElem?_cons_zero, movesOf]
      repeat (go_big_quiet_step ((go_at_call 37; refine Calls.quiet_of (place_cap _ g zs.length cp fr i _ ?_ ?_ (by omega) (by omega) hf (by omega) (by omega)) <;> (go_simp))))
      refine wpQuiet_nil ?_
      rintro _ ⟨nq, rfl⟩
      have hj2 := HJs.out i _ _ HJ.out ((Only.refl _ _).drewN nq)
      obtain ⟨fn, tmps, assign, body, hy, hR⟩ := HY.out i (by rw [places_length]; exact hlt) _ hj2
      rw [places_get] at hy
      simp only [encP] at hy
      rw [← HXI.out] at hy
      have K1' : Hid ((wr.drewN nq).heap[W.heap.size]? = some (.cells #[.slice (some ⟨g, 0, none⟩) zs.length cp, .int .i64 fr, .int .i64 xs.length, .int .i64 room] 81 (0, 0))) := K1.out
      have K2' : Hid ((wr.drewN nq).heap[g]? = some (.cells cur 3 (0, 0))) := K2.out
      clear hj2 HJ K1 K2 d0 d1 d2 b1 b2 hm
      generalize wr.drewN nq = wr2 at *
      gi_wp2
      refine ⟨rfl, hR.mono ?_⟩
      clear hR
      rintro e W3 (⟨rfl, hk, hj3⟩ | ⟨rfl, hx3⟩)
      · have HK := Lib.hid hk
        have HJ3 := Lib.hid hj3
        clear hk hj3 hy
        gi_wp2
        go_wp2
        go_roundw
        case rel => exact ⟨i + 1, by omega, by go_num, HJ3.out, (HK.out _ (Nat.le_refl _) gA).trans K1'.out, (HK.out _ (by omega) gB).trans K2'.out⟩
        case measure => simp [intOf]; omega
      · have HX3 := Lib.hid hx3
        clear hx3 hy
        gi_wp2
        go_wp2
        exact bodyPost_ret (results_none rfl _ _ _) rfl ⟨⟨_, rfl⟩, HJxd.out _ HX3.out⟩
    · obtain rfl : i = xs.length := by omega
      go_wp2
      go_end0
      exact ⟨⟨_, rfl⟩, HJd.out _ (by rw [places_length]; exact HJ.out)⟩

set_option maxRecDepth 100000 in
set_option maxHeartbeats 1000000 in
theorem all_iter_empty (bx b rb room : Nat) (w : World) (hbx : w.cell? ⟨bx, 0, none⟩ = some (.pointer (some ⟨b, 0, none⟩))) (hq : QRep w b rb room []) :
    Iter Try.prog 38 #[.pointer (some ⟨bx, 0, none⟩)] encP (places []) w := by
  intro l W hW R H
  have hc := hW.cell hbx id
  obtain ⟨zs, fr, ha, hx⟩ := hq.only hW id id
  obtain ⟨c0, c1, c2, c3, cf⟩ := ha.cells
  have hfit := ha.fit
  have hhi := ha.hi
  have HX := Lib.hid hx
  have HH := Lib.hid H
  have HA := Lib.hid ha
  have l1 := World.block_lt_of_cell? W _ hc
  have l2 := ha.lt.1
  have fin : ∀ W0, Only (fun _ => False) W W0 → R W0 := fun W0 h0 => by
    obtain ⟨J, Jx, hJ0, _, _, _, hJd, _⟩ := H W0 h0
    exact hJd W0 hJ0
  have HF := Lib.hid fin
  simp only [List.length_nil] at c2
  clear hbx hq hW hx H w ha fin
  show Calls Try.prog 38 #[.func (.yield l) #[] #[], .pointer (some ⟨bx, 0, none⟩)] W _
  by_cases hz : zs.length = 0
  · rw [ringV, if_pos hz] at c0
    go_enter Try.func38, Try.ntmps38
    go_wp2_with (go_at_call 39; refine (clone_nil _).mono ?_; rintro e w1 ⟨rfl, rfl⟩)
    refine wp_loop_rounds 1 ?_
    rw [rounds_succ]
    go_wp2
    go_end0
    exact ⟨⟨_, rfl⟩, HF.out _ ((Only.refl _ _).alloc _)⟩
  · obtain ⟨hr, hne, hf⟩ := HA.out.ring (by omega)
    have HR := Lib.hid hr
    rw [ringV, if_neg hz] at c0
    have l2' := HA.out.lt.2
    clear hr
    go_enter Try.func38, Try.ntmps38
    go_wp2_with (fail)
    refine (clone_some rb zs.length zs.length zs _ (hp_alloc HR.out _) rfl (by omega) (by omega)).mono ?_
    rintro e w1 ⟨g, cp, cur, rfl, hg1, hg2, hcur, o1⟩
    have k1 : w1.heap[W.heap.size]? = some (.cells #[.slice (some ⟨rb, 0, none⟩) zs.length zs.length, .int .i64 fr, .int .i64 (0 : Nat), .int .i64 room] 81 (0, 0)) := o1.keep (heap_alloc_new W _) id
    have f1 : ∀ j, w1.frozen? ⟨W.heap.size, j, none⟩ = false := fun j => free_of_row k1
    have d1 : w1.cell? ⟨W.heap.size, 0, none⟩ = some (.slice (some ⟨rb, 0, none⟩) zs.length zs.length) := by rw [cell_of_row w1 _ _ _ _ _ k1]; rfl
    have d2 : w1.cell? ⟨W.heap.size, 2, none⟩ = some (.int .i64 (0 : Nat)) := by rw [cell_of_row w1 _ _ _ _ _ k1]; rfl
    have O1 := Lib.hid o1
    clear k1 hg1 hg2 hcur o1
    go_wp2_with (fail)
    refine wp_loop_rounds 1 ?_
    rw [rounds_succ]
    go_wp2
    go_end0
    exact ⟨⟨_, rfl⟩, HF.out _ ((((Only.refl (fun _ => False) W).alloc _).trans O1.out (fun _ _ h => h)).setCell (.inr (Nat.le_refl _)) _)⟩

theorem all_iter_any (bx b rb room : Nat) (xs : List Int) (w : World) (hbx : w.cell? ⟨bx, 0, none⟩ = some (.pointer (some ⟨b, 0, none⟩))) (hq : QRep w b rb room xs) :
    Iter Try.prog 38 #[.pointer (some ⟨bx, 0, none⟩)] encP (places xs) w := by
  cases xs with
  | nil => exact all_iter_empty bx b rb room w hbx hq
  | cons x xs => exact all_iter bx b rb room (x :: xs) w hbx hq (by simp)

end Go.Proofs.Ytflcdbefakjcbaa
