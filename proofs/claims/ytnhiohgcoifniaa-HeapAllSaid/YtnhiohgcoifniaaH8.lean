/- The contracts of Del and Pop. -/
import Derived.Test.YtnhiohgcoifniaaH7
namespace Go.Proofs.Ytnhiohgcoifniaa
open Go.RowKit Go.Gav Go.BigFrame
open Go.Maps (Tidy IsMap)

set_option maxRecDepth 100000 in
set_option maxHeartbeats 2000000 in
theorem h_del (hb lb mb : Nat) (S : List En) (k : Int) (hk : I64 k) (w : World) (h : HRep w hb lb mb S) :
    Calls Try.prog 14 #[.pointer (some ⟨hb, 0, none⟩), .int .i64 k] w fun e w' => e = .returned (.bool (getS S k).isSome) ∧ HRep w' hb lb mb (delS S k) ∧ Only (fun j => j = hb ∨ j = lb ∨ j = mb) w w' := by
  have HW := Lib.hid h
  obtain ⟨L, D, v, h1, h2, h3⟩ := h
  have hlts := h1.lts
  rcases holds_cases h3 k with ⟨i, hi, e1, e2⟩ | ⟨hn, hnS, e2⟩
  · obtain ⟨cap, rfl, hcap, -, -, -, -⟩ := h1.row.some (by omega)
    obtain ⟨c0, c1, c2⟩ := three_cells h1.head
    have hne := h1.far.2.1 rfl
    have hsm := h1.small
    have l2 : ∀ m, (Instr.lookup 61 (.map (some mb)) (.int .i64 k) false).run Try.prog (w.drewN m) = .ok (.int .i64 i) (w.drewN m) := fun m => ((h1.only ((Only.refl (fun _ => False) w).drewN m) id id id).look_there i hi k e1).2
    have H2 := Lib.hid h2
    have H3 := Lib.hid h3
    have HI := Lib.hid hi
    have HE := Lib.hid e1
    have hgs : (getS S k).isSome = true := by rw [e2]; rfl
    obtain ⟨gv, hgv⟩ : ∃ z, z = (getS S k).getD 0 := ⟨_, rfl⟩
    obtain ⟨n, hn⟩ : ∃ n, n = L.length := ⟨_, rfl⟩
    rw [← hn] at h1 c1 hi hsm hcap
    have HH := Lib.hid h1
    have HN := Lib.hid hn
    have HGS := Lib.hid hgs
    have hl1 : (n : Int) - 1 = ((n - 1 : Nat) : Int) := by omega
    clear h1 h2 h3 e1 e2 hn hgs
    rw [HGS.out]
    go_enter Try.func14, Try.ntmps14
    go_wp2_with (fail)
    refine (h_get hb lb mb S k hk _ HW.out).mono ?_
    rintro e w2 ⟨rfl, rfl⟩
    rw [HGS.out, ← hgv]
    clear hgv
    go_wp2_with (fail)
    refine wp_region_mixed [] [0, 1, 2, 3, 4, 5, 6, 7, 8, 9, 10, 11, 12] 13 [] (by kernel_rfl) (by kernel_rfl) (fun _ _ _ _ h => h) ?_
    simp only [pick, consO, List.getElem?_toArray, List.getElem?_cons_succ, List.getElem?_cons_zero, movesOf]
    repeat (go_big_quiet_step (fail))
    refine wpQuiet_nil ?_
    rintro _ ⟨nq, rfl⟩
    go_wp2_with (fail)
    have hlast : n - 1 < L.length := by rw [← HN.out]; omega
    have HLAST := Lib.hid hlast
    have HH2 := Lib.hid (HH.out.only ((Only.refl (fun _ => False) w2).drewN nq) id id id)
    refine (h_swap hb lb mb L D _ _ HH2.out i (n - 1) HI.out HLAST.out).mono ?_
    rintro e w3 ⟨rfl, h3, o3⟩
    have A3 := Lib.hid h3
    have O3 : Hid (Only (fun j => j = lb ∨ j = mb) w2 w3) := ((Only.refl (fun j => j = lb ∨ j = mb) w2).drewN nq).trans o3 (fun _ _ h => h)
    obtain ⟨d0, d1, d2⟩ := three_cells h3.head
    have f1 : w3.frozen? ⟨hb, 1, none⟩ = false := free_of_row h3.head
    clear h3 o3 c0 c1 c2 l2 hlast
    have hkey : keyOf Try.prog 3 (.int .i64 k) = some (.int .i64 k) := Go.Maps.keyOf_int_mk Try.underlying3 hk
    have HKEY := Lib.hid hkey
    have o4 : Only (fun j => j = hb) w3 (w3.setCell ⟨hb, 1, none⟩ (.slice (some ⟨lb, 0, none⟩) (n - 1) cap)) := Only.setAt (Only.refl (fun j => j = hb) w3) 1 _
    have h4 : (w3.setCell ⟨hb, 1, none⟩ (.slice (some ⟨lb, 0, none⟩) (n - 1) cap)).heap[hb]? = some (.cells #[.func (.func 10) #[] #[], .slice (some ⟨lb, 0, none⟩) (n - 1) cap, .map (some mb)] 63 (0, 0)) := by
      have := hp_same (j := 1) A3.out.head (.slice (some ⟨lb, 0, none⟩) (n - 1) cap)
      simpa using this
    have H4 := Lib.hid h4
    have O4 := Lib.hid o4
    have hM4 : (w3.setCell ⟨hb, 1, none⟩ (.slice (some ⟨lb, 0, none⟩) (n - 1) cap)).ownsMap Try.prog 3 (plainElem Try.prog 3) mb (swapL L i (n - 1)).length (swapD D L i (n - 1)) := by
      obtain ⟨es, clock, hm, r⟩ := A3.out.map
      exact ⟨es, clock, o4.keep hm (fun e => hlts.2.2.2 e.symm), r⟩
    have M4 := Lib.hid hM4
    clear h4 o4 hkey hM4
    go_wp2_with (first
      | (at_delete; refine wpList_delete_own _ rfl (.tmp 45) (.tmp 46) 61 3 rfl 3 keyed Try.underlying61 _ mb _ _ rfl M4.out _ _ rfl HKEY.out ?_; intro w5 own5 t5; have OWN5 := Lib.hid own5; have T5 := Lib.hid t5; have TD := Lib.hid (M4.out.tidy keyed); clear own5 t5))
    all_goals
      have hl3 : (swapL L i (n - 1)).length = n := by rw [swapL_length, ← HN.out]
      have o5 : Only (fun j => j = mb) (w3.setCell ⟨hb, 1, none⟩ (.slice (some ⟨lb, 0, none⟩) (n - 1) cap)) w5 := (Only.refl (fun j => j = mb) _).grown T5.out.grown (fun k hk => .inl (by cases hk; rfl))
      have hlk : (atE (swapL L i (n - 1)) (n - 1)).1 = k := by rw [swapL_k L i (n - 1) HI.out HLAST.out]; exact HE.out
      have hid : Idx ((swapD D L i (n - 1)).del (.int .i64 k)) ((swapL L i (n - 1)).take (n - 1)) := by
        have := A3.out.idx.pop TD.out (by rw [hl3]; omega)
        rw [hl3, hlk] at this
        exact this
      have hl4 : ((swapL L i (n - 1)).take (n - 1)).length = n - 1 := by rw [List.length_take, hl3]; omega
      have H5 : HAt w5 hb lb mb ((swapL L i (n - 1)).take (n - 1)) ((swapD D L i (n - 1)).del (.int .i64 k)) (.slice (some ⟨lb, 0, none⟩) (n - 1) cap) := by
        refine ⟨o5.keep H4.out hlts.2.2.2, ((A3.out.row.take (by rw [hl3]; omega)).only O4.out (fun _ => hne.1)).only o5 (fun _ => hne.2), ?_, hid, ⟨hlts.2.2.2, fun _ => hne, ?_⟩, by rw [hl4]; omega⟩
        · have := ownsMap_tight OWN5.out
          rw [hid.size] at this
          exact this
        · have := hlts.2.1; have := O3.out.size; have := O4.out.size; have := o5.size; omega
      have hho : Holds ((swapL L i (n - 1)).take (n - 1)) (delS S k) := by
        have := H3.out.del HI.out
        rw [← HN.out, HE.out] at this
        exact this
      have O5 : Hid (Only (fun j => j = hb ∨ j = lb ∨ j = mb) w2 w5) := ((O3.out.mono (fun _ h => .inr h)).trans O4.out (fun _ _ h => .inl h)).trans o5 (fun _ _ h => .inr (.inr h))
      have hat : ∀ j, j < n - 1 → j ≠ i → atE ((swapL L i (n - 1)).take (n - 1)) j = atE L j := by
        intro j hj hji
        have e : atE ((swapL L i (n - 1)).take (n - 1)) j = atE (swapL L i (n - 1)) j := by
          have : j < (swapL L i (n - 1)).length := by omega
          simp [atE, hj, this]
        rw [e, swapL_o L i (n - 1) j HI.out HLAST.out (by have := HN.out; omega) hji (by omega)]
    · have hil : i < n - 1 := by omega
      have hup : UpP (atE ((swapL L i (n - 1)).take (n - 1))) ((swapL L i (n - 1)).take (n - 1)).length i := by
        rw [hl4]
        exact heap_set (heap_less H2.out (m := n - 1) (by rw [← HN.out]; omega) (fun j _ => rfl)) hil (fun j hj hji => hat j hj hji)
      have HO := Lib.hid hho
      refine (h_settle hb lb mb _ _ _ _ H5 i (by rw [hl4]; exact hil) hup).mono ?_
      rintro e w6 ⟨rfl, L6, ⟨D6, h6⟩, hp6, p6, o6⟩
      have H6 := Lib.hid (show HRep w6 hb lb mb (delS S k) from ⟨L6, D6, _, h6, hp6, ⟨p6.trans HO.out.perm, HO.out.sorted, HO.out.nd⟩⟩)
      have O6 := Lib.hid (O5.out.trans o6 (fun _ _ h => .inr h))
      clear H5 hup hho h6 hp6 p6 o6 o5 hid hat
      go_wp2
      go_ret
      exact ⟨rfl, H6.out, O6.out⟩
    · have hge : n - 1 ≤ i := by omega
      go_ret
      refine ⟨rfl, ⟨_, _, _, H5, ?_, hho⟩, O5.out⟩
      rw [hl4]
      exact heap_less H2.out (by rw [← HN.out]; omega) (fun j hj => hat j hj (by omega))
  · have HGN := Lib.hid e2
    have HDN := Lib.hid (delS_none hnS)
    clear h1 h2 h3 hn hnS e2
    go_enter Try.func14, Try.ntmps14
    go_wp2_with (fail)
    refine (h_get hb lb mb S k hk _ HW.out).mono ?_
    rintro e w2 ⟨rfl, rfl⟩
    rw [HGN.out]
    go_wp2
    go_ret
    exact ⟨by rw [HGN.out]; rfl, by rw [HDN.out]; exact HW.out, Only.refl _ _⟩

set_option maxRecDepth 100000 in
set_option maxHeartbeats 2000000 in
theorem h_pop (hb lb mb : Nat) (S : List En) (hk : ∀ x ∈ S, I64 x.1) (w : World) (h : HRep w hb lb mb S) :
    Calls Try.prog 17 #[.pointer (some ⟨hb, 0, none⟩)] w fun e w' => e = .returned (.tuple #[.agg #[.int .i64 (headE S).1, .int .i64 (headE S).2], .bool (!S.isEmpty)]) ∧ HRep w' hb lb mb S.tail ∧ Only (fun j => j = hb ∨ j = lb ∨ j = mb) w w' := by
  have HW := Lib.hid h
  have hlts := h.lts
  cases S with
  | nil =>
    clear h
    go_enter Try.func17, Try.ntmps17
    go_wp2_with (fail)
    refine (h_min hb lb mb [] _ (HW.out.only ((Only.refl (fun _ => False) w).alloc _) id id id)).mono ?_
    rintro e w2 ⟨rfl, o2⟩
    have kb : w2.heap[w.heap.size]? = some (.cells #[.int .i64 0, .int .i64 0] 40 (0, 0)) := o2.keep (heap_alloc_new w _) id
    obtain ⟨c0, c1⟩ := two_cells kb
    have f0 : w2.frozen? ⟨w.heap.size, 0, none⟩ = false := free_of_row kb
    have f1 : w2.frozen? ⟨w.heap.size, 1, none⟩ = false := free_of_row kb
    have KB := Lib.hid kb
    have hlt := lt_of_block kb
    have O2 := Lib.hid (((Only.refl (fun _ => False) w).alloc (.cells #[.int .i64 0, .int .i64 0] 40)).trans o2 (fun _ _ h => h))
    clear kb o2
    go_wp2_with (fail)
    have k3 := hp_alloc (hp_same (j := 1) (hp_same (j := 0) KB.out (.int .i64 (headE []).1)) (.int .i64 (headE []).2)) (.cells #[.int .i64 (headE []).1, .int .i64 (headE []).2] 40)
    have o3 : Only (fun _ => False) w (((w2.setCell ⟨w.heap.size, 0, none⟩ (.int .i64 (headE []).1)).setCell ⟨w.heap.size, 1, none⟩ (.int .i64 (headE []).2)).alloc (.cells #[.int .i64 (headE []).1, .int .i64 (headE []).2] 40)) :=
      ((O2.out.setCell (p := ⟨w.heap.size, 0, none⟩) (.inr (Nat.le_refl _)) _).setCell (p := ⟨w.heap.size, 1, none⟩) (.inr (Nat.le_refl _)) _).alloc _
    refine bodyPost_ret (results_row_tmp rfl _ _ w.heap.size 40 _ _ rfl k3 Try.underlying40 rfl (by kernel_rfl)) rfl ?_
    exact ⟨by simp, HW.out.only o3 id id id, o3.mono (fun _ h => h.elim)⟩
  | cons x xs =>
    obtain ⟨x1, x2⟩ := x
    have hx1 : I64 x1 := hk (x1, x2) (by simp)
    have hnd : KeysND ((x1, x2) :: xs) := let ⟨_, _, _, _, _, c⟩ := h; c.nd
    have hgs : (getS ((x1, x2) :: xs) x1).isSome = true := by rw [getS_some hnd (x := (x1, x2)) (by simp)]; rfl
    have hds : delS ((x1, x2) :: xs) x1 = xs := by
      unfold KeysND at hnd
      rw [List.map_cons, List.nodup_cons] at hnd
      unfold delS
      rw [List.filter_cons_of_neg (by simp)]
      exact List.filter_eq_self.2 (fun y hy => by
        have h : y.1 ≠ x1 := fun e => hnd.1 (List.mem_map.2 ⟨y, hy, e⟩)
        simpa using h)
    have HGS := Lib.hid hgs
    have HDS := Lib.hid hds
    clear h hnd hgs hds hk
    go_enter Try.func17, Try.ntmps17
    go_wp2_with (fail)
    refine (h_min hb lb mb _ _ (HW.out.only ((Only.refl (fun _ => False) w).alloc _) id id id)).mono ?_
    rintro e w2 ⟨rfl, o2⟩
    have kb : w2.heap[w.heap.size]? = some (.cells #[.int .i64 0, .int .i64 0] 40 (0, 0)) := o2.keep (heap_alloc_new w _) id
    have KB := Lib.hid kb
    have hlt := lt_of_block kb
    have O2 := Lib.hid (((Only.refl (fun _ => False) w).alloc (.cells #[.int .i64 0, .int .i64 0] 40)).trans o2 (fun _ _ h => h))
    have H2 := Lib.hid (HW.out.only (((Only.refl (fun _ => False) w).alloc (.cells #[.int .i64 0, .int .i64 0] 40)).trans o2 (fun _ _ h => h)) id id id)
    clear kb o2
    have hd1 : headE ((x1, x2) :: xs) = (x1, x2) := rfl
    rw [hd1]
    simp only [List.isEmpty_cons, Bool.not_false]
    go_wp2_with (fail)
    refine (h_del hb lb mb _ x1 hx1 _ (H2.out.only ((Only.refl (fun _ => False) w2).alloc _) id id id)).mono ?_
    rintro e w3 ⟨rfl, h3, o3⟩
    rw [HDS.out] at h3
    rw [HGS.out]
    have kb3 := o3.keep (hp_alloc KB.out _) (fun h => by omega)
    have kc3 : w3.heap[w2.heap.size]? = some (.cells #[.int .i64 x1, .int .i64 x2] 40 (0, 0)) := o3.keep (heap_alloc_new w2 _) (fun h => by have := O2.out.size; omega)
    obtain ⟨c0, c1⟩ := two_cells kb3
    obtain ⟨d0, d1⟩ := two_cells kc3
    have f0 : w3.frozen? ⟨w.heap.size, 0, none⟩ = false := free_of_row kb3
    have f1 : w3.frozen? ⟨w.heap.size, 1, none⟩ = false := free_of_row kb3
    have KB3 := Lib.hid kb3
    have H3 := Lib.hid h3
    have O3 : Hid (Only (fun j => j = hb ∨ j = lb ∨ j = mb) w w3) := ((O2.out.alloc _).mono (fun _ h => h.elim)).trans o3 (fun _ _ h => h)
    clear kb3 kc3 h3 o3
    go_wp2_with (fail)
    have k4 := hp_same (j := 1) (hp_same (j := 0) KB3.out (.int .i64 x1)) (.int .i64 x2)
    have o4 : Only (fun j => j = w.heap.size) w3 ((w3.setCell ⟨w.heap.size, 0, none⟩ (.int .i64 x1)).setCell ⟨w.heap.size, 1, none⟩ (.int .i64 x2)) := Only.setAt (Only.setAt (Only.refl (fun j => j = w.heap.size) w3) 0 _) 1 _
    refine bodyPost_ret (results_row_tmp rfl _ _ w.heap.size 40 _ _ rfl k4 Try.underlying40 rfl (by kernel_rfl)) rfl ?_
    exact ⟨rfl, H3.out.only o4 (fun h => by omega) (fun h => by omega) (fun h => by omega), O3.out.trans o4 (fun j hj h => by omega)⟩

end Go.Proofs.Ytnhiohgcoifniaa
