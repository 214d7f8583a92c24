/- The contract of the queue's Push. -/
import Derived.Test.YtflcdbefakjcbaaQ3
namespace Go.Proofs.Ytflcdbefakjcbaa
open Go.RowKit Go.Gav Go.BigFrame

theorem push_nil (x : Int) (w : World) :
    Calls Try.prog 14 #[.pointer none, .int .i64 x] w fun e w' => e = .returned (.int .i64 1) ∧ w' = w := by
  go_enter Try.func14, Try.ntmps14
  go_wp2
  go_ret
  exact ⟨rfl, rfl⟩

theorem push_full (b n room : Nat) (x : Int) (w : World) (h2 : w.cell? ⟨b, 2, none⟩ = some (.int .i64 n)) (h3 : w.cell? ⟨b, 3, none⟩ = some (.int .i64 room)) (h : room ≤ n) :
    Calls Try.prog 14 #[.pointer (some ⟨b, 0, none⟩), .int .i64 x] w fun e w' => e = .returned (.int .i64 14) ∧ ∃ m, w' = w.drewN m := by
  go_enter Try.func14, Try.ntmps14
  go_wp2
  go_quiet (fail)
  go_wp2
  go_ret
  exact ⟨rfl, _, rfl⟩

theorem push_room (b rb L fr n room : Nat) (x : Int) (w : World) (h0 : w.cell? ⟨b, 0, none⟩ = some (.slice (some ⟨rb, 0, none⟩) L L)) (h1 : w.cell? ⟨b, 1, none⟩ = some (.int .i64 fr))
    (h2 : w.cell? ⟨b, 2, none⟩ = some (.int .i64 n)) (h3 : w.cell? ⟨b, 3, none⟩ = some (.int .i64 room))
    (hf : fr < L) (hL : L ≤ 1048576) (y : Value) (hx : w.cell? ⟨rb, (fr + n) % L, none⟩ = some y)
    (hfz : ∀ j, w.frozen? ⟨b, j, none⟩ = false) (hfr : ∀ j, w.frozen? ⟨rb, j, none⟩ = false) (hne : rb ≠ b) (hnL : n < L) (hnr : n < room) :
    Calls Try.prog 14 #[.pointer (some ⟨b, 0, none⟩), .int .i64 x] w fun e w' => e = .returned (.int .i64 0) ∧
      SameMem ((w.setCell ⟨rb, (fr + n) % L, none⟩ (.int .i64 x)).setCell ⟨b, 2, none⟩ (.int .i64 (n + 1))) w' := by
  have hne' : b ≠ rb := fun e => hne e.symm
  have b1 : (0 : Int) ≤ ((fr : Int) + (n : Int)) % (L : Int) := Int.emod_nonneg _ (by omega)
  have b2 : ((fr : Int) + (n : Int)) % (L : Int) < (L : Int) := Int.emod_lt_of_pos _ (by omega)
  have b3 : ((n : Int) == (L : Int)) = false := by simp; omega
  go_enter Try.func14, Try.ntmps14
  go_wp2
  go_quiet (fail)
  go_wp2
  go_quiet (fail)
  go_wp2
  refine wp_region_mixed [] [0, 1, 2, 3, 4, 5, 6, 7, 8, 9, 10, 11] 12 [] (by kernel_rfl) (by kernel_rfl) (fun _ _ _ _ h => h) ?_
  simp only [pick, consO, List.getElem?_toArray, List.getElem?_cons_succ, List.getElem?_cons_zero, movesOf]
  repeat (go_big_quiet_step ((go_at_call 37; refine quiet_of2 (place_any b rb L fr n _ ?_ ?_ (by omega) hL hf (by omega) (by omega)) <;> (go_simp))))
  refine wpQuiet_nil ?_
  rintro _ ⟨nq3, rfl⟩
  go_wp2
  go_ret
  exact ⟨rfl, rfl, rfl, rfl, rfl⟩

theorem place_zero (b rb L n : Nat) (w : World)
    (h0 : w.cell? ⟨b, 0, none⟩ = some (.slice (some ⟨rb, 0, none⟩) L L))
    (h1 : w.cell? ⟨b, 1, none⟩ = some (.int .i64 (0 : Nat)))
    (hL2 : L ≤ 1048576) (hn : n < L) :
    Calls Try.prog 37 #[.pointer (some ⟨b, 0, none⟩), .int .i64 n] w fun e w' => e = .returned (.int .i64 n) ∧ ∃ m, w' = w.drewN m :=
  (place_any b rb L 0 n w h0 h1 (by omega) hL2 (by omega) (by omega) (by omega)).mono fun e w' ⟨he, hw⟩ => ⟨by
    rw [he]; congr 2
    rw [Int.emod_eq_of_lt (by omega) (by omega)]; omega, hw⟩

theorem push_grow (b rb room : Nat) (zs : List Int) (fr : Nat) (x : Int) (w : World) (h : QAt w b rb room zs fr zs.length) (hr : zs.length < room) :
    Calls Try.prog 14 #[.pointer (some ⟨b, 0, none⟩), .int .i64 x] w fun e w' => e = .returned (.int .i64 0) ∧
      ∃ cap w1, zs.length < cap ∧ cap ≤ room ∧ QAt w1 b w.heap.size room (ringItems zs fr zs.length ++ List.replicate (cap - zs.length) 0) 0 zs.length ∧ Only (fun k => k = b) w w1 ∧
      SameMem ((w1.setCell ⟨w.heap.size, zs.length, none⟩ (.int .i64 x)).setCell ⟨b, 2, none⟩ (.int .i64 (zs.length + 1))) w' := by
  obtain ⟨c0, c1, c2, c3, cf⟩ := h.cells
  have hfit := h.fit
  have hhi := h.hi
  have hbz := h.lt.1
  have c0' : ∃ ro, w.cell? ⟨b, 0, none⟩ = some (.slice ro zs.length zs.length) := by
    rw [c0, ringV]
    split
    · exact ⟨none, by simp_all⟩
    · exact ⟨_, rfl⟩
  obtain ⟨ro, d0⟩ := c0'
  clear c0
  have H := Lib.hid h
  clear h
  have HC := Lib.hid (And.intro hfit hr)
  go_enter Try.func14, Try.ntmps14
  go_wp2
  go_quiet (fail)
  go_wp2
  go_quiet (fail)
  go_wp2_with (fail)
  have H1 : ∀ m, QAt (w.drewN m) b rb room zs fr zs.length := fun m => H.out.only ((Only.refl (fun _ => False) w).drewN _) id id
  refine (grow_at b rb room zs fr _ (H1 _) hr).mono ?_
  rintro e w1 ⟨rfl, cap, g1, g2, hq, ho⟩
  have HO : Hid (Only (fun k => k = b) w w1) := ((Only.refl (fun k => k = b) w).drewN _).trans ho (fun _ _ h => h)
  change QAt w1 b w.heap.size _ _ _ _ at hq
  have hcl : (ringItems zs fr zs.length ++ List.replicate (cap - zs.length) 0).length = cap := by
    rw [List.length_append, ringItems_length, List.length_replicate]; omega
  obtain ⟨e0, e1, e2, e3, ef⟩ := hq.cells
  obtain ⟨er, ene, _⟩ := hq.ring (by omega)
  have ex : w1.cell? ⟨w.heap.size, zs.length, none⟩ = some (.int .i64 ((ringItems zs fr zs.length ++ List.replicate (cap - zs.length) 0).getD zs.length 0)) := cell_ints er (by omega)
  have efr : ∀ j, w1.frozen? ⟨w.heap.size, j, none⟩ = false := fun j => free_of_row er
  rw [ringV, if_neg (by omega), hcl] at e0
  have ene' : b ≠ w.heap.size := fun e => ene e.symm
  have HQ := Lib.hid hq
  have HL := Lib.hid hcl
  clear ho hq hcl er d0 c1 c2 c3 cf
  obtain ⟨y, hy⟩ : ∃ y, y = (ringItems zs fr zs.length ++ List.replicate (cap - zs.length) 0).getD zs.length 0 := ⟨_, rfl⟩
  rw [← hy] at ex
  clear hy H1
  go_wp2
  refine wp_region_mixed [] [0, 1, 2, 3, 4, 5, 6, 7, 8, 9, 10, 11] 12 [] (by kernel_rfl) (by kernel_rfl) (fun _ _ _ _ h => h) ?_
  simp only [pick, consO, List.getElem?_toArray, List.getElem?_cons_succ, List.getElem?_cons_zero, movesOf]
  repeat (go_big_quiet_step ((go_at_call 37; refine Calls.quiet_of (place_zero b w.heap.size cap zs.length _ ?_ ?_ (by omega) g1) <;> (go_simp))))
  refine wpQuiet_nil ?_
  rintro _ ⟨nq3, rfl⟩
  go_wp2
  go_ret
  exact ⟨rfl, cap, w1, g1, g2, HQ.out, HO.out, rfl, rfl, rfl, rfl⟩

theorem push_at (b rb room : Nat) (xs : List Int) (zs : List Int) (fr : Nat) (x : Int) (w : World) (h : QAt w b rb room zs fr xs.length) (hx : xs = ringItems zs fr xs.length) (hr : xs.length < room) :
    Calls Try.prog 14 #[.pointer (some ⟨b, 0, none⟩), .int .i64 x] w fun e w' => e = .returned (.int .i64 0) ∧
      ∃ rb' zs' fr', QAt w' b rb' room zs' fr' (xs ++ [x]).length ∧ xs ++ [x] = ringItems zs' fr' (xs ++ [x]).length ∧ (rb' = rb ∨ w.heap.size ≤ rb') ∧ Only (fun k => k = b ∨ k = rb) w w' := by
  have hle := h.le
  have hb := h.lt
  by_cases hlt : xs.length < zs.length
  · obtain ⟨hrg, hne, hf⟩ := h.ring (by omega)
    obtain ⟨c0, c1, c2, c3, cf⟩ := h.cells
    have hm : (fr + xs.length) % zs.length < zs.length := Nat.mod_lt _ (by omega)
    refine (push_room b rb zs.length fr xs.length room x w (h.ringV (by omega)) c1 c2 c3 hf (by have := h.fit; have := h.hi; omega) _ (cell_ints hrg hm) cf (fun j => free_of_row hrg) hne hlt hr).mono ?_
    rintro e w' ⟨rfl, ha⟩
    refine ⟨rfl, rb, zs.set ((fr + xs.length) % zs.length) x, fr, ⟨?_, ?_, ?_, ?_, ?_, h.lo, h.hi⟩, ?_, .inl rfl, ?_⟩
    · rw [ha.heap, ringV_set]
      have g1 := hp_other (p := ⟨rb, (fr + xs.length) % zs.length, none⟩) h.head (fun e => hne e.symm) (.int .i64 x)
      have g2 := hp_same (j := 2) g1 (.int .i64 (xs.length + 1))
      simpa using g2
    · intro _
      refine ⟨?_, hne, by rw [List.length_set]; exact hf⟩
      rw [ha.heap]
      have g1 := hp_same (j := (fr + xs.length) % zs.length) hrg (.int .i64 x)
      rw [ints_set] at g1
      exact hp_other (p := ⟨b, 2, none⟩) g1 hne _
    · intro h0; rw [List.length_set] at h0; omega
    · rw [List.length_set]; simp; omega
    · rw [List.length_set]; exact h.fit
    · rw [List.length_append, List.length_singleton, ringItems_push zs fr xs.length x hf hlt, ← hx]
    · have o1 : Only (fun k => k = b ∨ k = rb) w w := Only.refl _ _
      exact ha.only ((o1.setCell (p := ⟨rb, (fr + xs.length) % zs.length, none⟩) (.inl (.inr rfl)) _).setCell (p := ⟨b, 2, none⟩) (.inl (.inl rfl)) _)
  · have hlen : xs.length = zs.length := by omega
    rw [hlen] at h hx
    refine (push_grow b rb room zs fr x w h (by omega)).mono ?_
    rintro e w' ⟨rfl, cap, w1, g1, g2, hq, ho, ha⟩
    rw [← hx] at hq
    have hcl : (xs ++ List.replicate (cap - zs.length) 0).length = cap := by simp; omega
    obtain ⟨hrg, hne, hf⟩ := hq.ring (by omega)
    have hs := ringItems_straight xs cap (by omega)
    rw [hlen] at hs
    refine ⟨rfl, w.heap.size, (xs ++ List.replicate (cap - zs.length) 0).set zs.length x, 0, ⟨?_, ?_, ?_, ?_, ?_, hq.lo, hq.hi⟩, ?_, .inr (Nat.le_refl _), ?_⟩
    · rw [ha.heap, ringV_set]
      have e1 := hp_other (p := ⟨w.heap.size, zs.length, none⟩) hq.head (fun e => hne e.symm) (.int .i64 x)
      have e2 := hp_same (j := 2) e1 (.int .i64 (zs.length + 1))
      simpa [hlen] using e2
    · intro _
      refine ⟨?_, hne, by rw [List.length_set]; exact hf⟩
      rw [ha.heap]
      have e1 := hp_same (j := zs.length) hrg (.int .i64 x)
      rw [ints_set] at e1
      exact hp_other (p := ⟨b, 2, none⟩) e1 hne _
    · intro h0; rw [List.length_set] at h0; omega
    · rw [List.length_set, hcl]; simp; omega
    · rw [List.length_set, hcl]; exact g2
    · have := ringItems_push (xs ++ List.replicate (cap - zs.length) 0) 0 zs.length x (by omega) (by omega)
      rw [hcl, Nat.zero_add, Nat.mod_eq_of_lt g1, hs] at this
      rw [List.length_append, List.length_singleton, hlen, this]
    · have o1 : Only (fun k => k = b ∨ k = rb) w w1 := ho.mono (fun _ h => .inl h)
      exact ha.only ((o1.setCell (p := ⟨w.heap.size, zs.length, none⟩) (.inr (Nat.le_refl _)) _).setCell (p := ⟨b, 2, none⟩) (.inl (.inl rfl)) _)

end Go.Proofs.Ytflcdbefakjcbaa
