/- The contract of the queue's Pop. -/
import Derived.Test.YtflcdbefakjcbaaQ1
namespace Go.Proofs.Ytflcdbefakjcbaa
open Go.RowKit Go.Gav Go.BigFrame

theorem pop_nil (w : World) :
    Calls Try.prog 16 #[.pointer none] w fun e w' => e = .returned (.tuple #[.int .i64 0, .bool false]) ∧ w' = w := by
  go_enter Try.func16, Try.ntmps16
  go_wp2_with (go_at_call 19; refine (peek_nil _).mono ?_; rintro e w' ⟨rfl, rfl⟩)
  go_ret2
  exact ⟨rfl, rfl⟩

theorem pop_none (b : Nat) (w : World) (h : w.cell? ⟨b, 2, none⟩ = some (.int .i64 (0 : Nat))) :
    Calls Try.prog 16 #[.pointer (some ⟨b, 0, none⟩)] w fun e w' => e = .returned (.tuple #[.int .i64 0, .bool false]) ∧ w' = w := by
  go_enter Try.func16, Try.ntmps16
  go_wp2_with (go_at_call 19; refine (peek_none _ _ h).mono ?_; rintro e w' ⟨rfl, rfl⟩)
  go_ret2
  exact ⟨rfl, rfl⟩

theorem pop_some (b rb L fr n : Nat) (x : Int) (w : World) (h0 : w.cell? ⟨b, 0, none⟩ = some (.slice (some ⟨rb, 0, none⟩) L L)) (h1 : w.cell? ⟨b, 1, none⟩ = some (.int .i64 fr))
    (h2 : w.cell? ⟨b, 2, none⟩ = some (.int .i64 n)) (hn : 0 < n) (hf : fr < L) (hL : L ≤ 1048576) (hx : w.cell? ⟨rb, fr, none⟩ = some (.int .i64 x))
    (hfz : ∀ j, w.frozen? ⟨b, j, none⟩ = false) (hfr : w.frozen? ⟨rb, fr, none⟩ = false) (hne : rb ≠ b) (hnL : n ≤ L) :
    Calls Try.prog 16 #[.pointer (some ⟨b, 0, none⟩)] w fun e w' => e = .returned (.tuple #[.int .i64 x, .bool true]) ∧
      SameMem (((w.setCell ⟨rb, fr, none⟩ (.int .i64 0)).setCell ⟨b, 1, none⟩ (.int .i64 ((fr + 1) % L))).setCell ⟨b, 2, none⟩ (.int .i64 (n - 1))) w' := by
  have hne' : b ≠ rb := fun e => hne e.symm
  go_enter Try.func16, Try.ntmps16
  go_wp2_with (go_at_call 19; refine (peek_some _ _ _ _ _ _ _ h0 h1 h2 hn hf hx).mono ?_; rintro e w' ⟨rfl, m, rfl⟩)
  refine wp_region_mixed [] [0, 1, 2, 3, 4, 5, 6, 7, 8, 9] 10 [] (by kernel_rfl) (by kernel_rfl) (fun _ _ _ _ h => h) ?_
  simp only [pick, consO, List.getElem?_toArray, List.getElem?_cons_succ, List.getElem?_cons_zero, movesOf]
  repeat (go_big_quiet_step (fail))
  refine wpQuiet_nil ?_
  rintro _ ⟨nq, rfl⟩
  go_wp2_with (fail)
  refine (place_any b rb L fr 1 _ ?_ ?_ (by omega) hL hf (by omega) (by omega)).mono ?_
  · go_simp
  · go_simp
  rintro e w' ⟨rfl, m', rfl⟩
  go_wp2
  go_ret2
  exact ⟨rfl, rfl, rfl, rfl, rfl⟩

theorem QAt.ringV {w : World} {b rb room : Nat} {zs : List Int} {fr n : Nat} (h : QAt w b rb room zs fr n) (hz : 0 < zs.length) :
    w.cell? ⟨b, 0, none⟩ = some (.slice (some ⟨rb, 0, none⟩) zs.length zs.length) := by
  rw [h.cells.1, Ytflcdbefakjcbaa.ringV, if_neg (by omega)]

theorem ringV_set (rb : Nat) (zs : List Int) (i : Nat) (x : Int) : ringV rb (zs.set i x).length = ringV rb zs.length := by rw [List.length_set]

theorem pop_at (b rb room : Nat) (zs : List Int) (fr n : Nat) (w : World) (h : QAt w b rb room zs fr (n + 1)) :
    Calls Try.prog 16 #[.pointer (some ⟨b, 0, none⟩)] w fun e w' => e = .returned (.tuple #[.int .i64 (zs.getD fr 0), .bool true]) ∧
      QAt w' b rb room (zs.set fr 0) ((fr + 1) % zs.length) n ∧ Only (fun k => k = b ∨ k = rb) w w' := by
  have hz : 0 < zs.length := by have := h.le; omega
  obtain ⟨hr, hne, hf⟩ := h.ring hz
  obtain ⟨c0, c1, c2, c3, cf⟩ := h.cells
  refine (pop_some b rb zs.length fr (n + 1) (zs.getD fr 0) w (h.ringV hz) c1 c2 (by omega) hf (by have := h.fit; have := h.hi; omega) (cell_ints hr hf) cf (free_of_row hr) hne h.le).mono ?_
  rintro e w' ⟨rfl, ha⟩
  refine ⟨rfl, ⟨?_, ?_, ?_, ?_, ?_, h.lo, h.hi⟩, ?_⟩
  · rw [ha.heap, ringV_set]
    have g1 := hp_other (p := ⟨rb, fr, none⟩) h.head (fun e => hne e.symm) (.int .i64 0)
    have g2 := hp_same (j := 2) (hp_same (j := 1) g1 (.int .i64 ((fr + 1) % zs.length))) (.int .i64 ((n + 1 : Nat) - 1))
    simpa using g2
  · intro _
    refine ⟨?_, hne, by rw [List.length_set]; exact Nat.mod_lt _ hz⟩
    rw [ha.heap]
    have g1 := hp_same (j := fr) hr (.int .i64 0)
    rw [ints_set] at g1
    exact hp_other (p := ⟨b, 2, none⟩) (hp_other (p := ⟨b, 1, none⟩) g1 hne _) hne _
  · intro h0; rw [List.length_set] at h0; omega
  · have := h.le; simp; omega
  · rw [List.length_set]; exact h.fit
  · exact ha.only ((((Only.refl _ _).setCell (.inl (.inr rfl)) _).setCell (.inl (.inl rfl)) _).setCell (.inl (.inl rfl)) _)

end Go.Proofs.Ytflcdbefakjcbaa
