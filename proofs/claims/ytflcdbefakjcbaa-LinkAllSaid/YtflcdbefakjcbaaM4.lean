/- The contract of Send of the document's net. -/
import Derived.Test.YtflcdbefakjcbaaM3
namespace Go.Proofs.Ytflcdbefakjcbaa
open Go.RowKit Go.Gav Go.BigFrame

theorem take_snoc3 (L : List It) (i : Nat) (h : i < L.length) : L.take (i + 1) = L.take i ++ [L[i]] := by rw [List.take_succ_eq_append_getElem h]

set_option maxRecDepth 100000 in
set_option maxHeartbeats 2000000 in
theorem dsend_good (a b v : Int) (mb rg n room : Nat) (L : List It) (w : World) (h : MN w mb rg n room L) (ha : 0 ≤ a ∧ a < n) (hb : 0 ≤ b ∧ b < n) (hab : a ≠ b) (hlen : L.length ≤ 300) :
    Calls Try.prog 33 #[.pointer (some ⟨mb, 0, none⟩), .int .i64 a, .int .i64 b, .int .i64 v] w fun e w' => e = .returned (.int .i64 (if room ≤ (onL L (a, b)).length then 14 else 0)) ∧
      (∃ rg', MN w' mb rg' n room (if room ≤ (onL L (a, b)).length then L else L ++ [((a, b), v)]) ∧ (rg' = rg ∨ w.heap.size ≤ rg')) ∧ Only (fun k => k = mb) w w' := by
  obtain ⟨i0, hi, hz0, hz1, hz2⟩ := info_parts info78
  obtain ⟨ct, hct⟩ : ∃ t, (onL L (a, b)).length = t := ⟨_, rfl⟩
  rw [hct]
  have HCT := Lib.hid hct
  clear hct
  have hM := h
  obtain ⟨ao, cap, h1, h2, h3, h4⟩ := h
  have c0 : w.cell? ⟨mb, 0, none⟩ = some (.int .i64 n) := by rw [cell_of_row w _ _ _ _ _ h1]; rfl
  have c1 : w.cell? ⟨mb, 1, none⟩ = some (.int .i64 room) := by rw [cell_of_row w _ _ _ _ _ h1]; rfl
  have c2 : w.cell? ⟨mb, 2, none⟩ = some (.slice ao L.length cap) := by rw [cell_of_row w _ _ _ _ _ h1]; rfl
  have hmb := lt_of_block h1
  have HM := Lib.hid hM
  have H1 := Lib.hid h1
  have H3 := Lib.hid h3
  have H4 := Lib.hid h4
  obtain ⟨len, hln⟩ : ∃ x, x = L.length := ⟨_, rfl⟩
  rw [← hln] at c2 hlen H3
  have HLN := Lib.hid hln
  clear h1 h2 h3 h4 hln hM
  have g1 : ¬ a < 0 := by omega
  have g2 : ¬ (n : Int) ≤ a := by omega
  have g3 : ¬ b < 0 := by omega
  have g4 : ¬ (n : Int) ≤ b := by omega
  go_enter Try.func33, Try.ntmps33
  go_wp2
  go_loopw [9, 10] (fun vc vi wr => ∃ i c : Nat, vc = .int .i64 c ∧ vi = .int .i64 i ∧ i ≤ len ∧ c ≤ i ∧ Hid (c = (onL (L.take i) (a, b)).length) ∧ wr = w) (fun _ vi _ => len - (intOf vi).toNat)
  case atStart => exact ⟨0, 0, rfl, rfl, Nat.zero_le _, Nat.le_refl _, rfl, rfl⟩
  case round =>
    obtain ⟨i, c, rfl, rfl, hil, hci, HC, rfl⟩ := hrel
    by_cases hlt : i < len
    · obtain rfl := H3.out (by omega)
      have hiL : i < L.length := by rw [← HLN.out]; exact hlt
      obtain ⟨e0, e1, e2⟩ := mem_cells H4.out i hiL
      obtain ⟨⟨⟨x, y⟩, z⟩, hx⟩ : ∃ x, x = L[i] := ⟨_, rfl⟩
      rw [← hx] at e0 e1
      have hs := take_snoc3 L i hiL
      rw [← hx] at hs
      have HS := Lib.hid hs
      simp only at e0 e1
      clear e2 hx hs
      by_cases hxa : x = a
      · subst hxa
        by_cases hyb : y = b
        · subst hyb
          go_wp2
          go_roundw
          case rel =>
            refine ⟨i + 1, c + 1, by go_num, by go_num, by omega, by omega, ?_, by first | rfl | trivial⟩
            show c + 1 = _
            rw [HS.out, onL_snoc_eq, List.length_append, ← HC.out]; rfl
          case measure => simp [intOf]; omega
        · have hyb' : (y == b) = false := by simpa using hyb
          have HYB := Lib.hid hyb
          clear hyb
          go_wp2
          go_roundw
          case rel =>
            refine ⟨i + 1, c, rfl, by go_num, by omega, by omega, ?_, by first | rfl | trivial⟩
            show c = _
            rw [HS.out, onL_snoc_ne _ _ _ _ (fun e => HYB.out (by simpa using e)), ← HC.out]
          case measure => simp [intOf]; omega
      · have hxa' : (x == a) = false := by simpa using hxa
        have HXA := Lib.hid hxa
        clear hxa
        go_wp2
        go_roundw
        case rel =>
          refine ⟨i + 1, c, rfl, by go_num, by omega, by omega, ?_, by first | rfl | trivial⟩
          show c = _
          rw [HS.out, onL_snoc_ne _ _ _ _ (fun e => HXA.out (by have := congrArg Prod.fst e; simpa using this)), ← HC.out]
        case measure => simp [intOf]; omega
    · obtain rfl : i = len := by omega
      have hc := HC.out
      rw [HLN.out, List.take_length, HCT.out] at hc
      subst hc
      clear HC
      by_cases hfull : room ≤ c
      · have hfz : (room : Int) ≤ (c : Int) := by omega
        have HF := Lib.hid hfull
        clear hfull
        go_wp2
        go_ret
        exact ⟨rfl, ⟨rg, HM.out, .inl rfl⟩, Only.refl _ _⟩
      · have hfz : ¬ (room : Int) ≤ (c : Int) := by omega
        have HF := Lib.hid hfull
        clear hfull
        have fin : ∀ (w2 w4 : World) (v2 v4 : Value), Only (fun _ => False) wr w2 → w2.ownsRow wr.heap.size 78 3 v2 i (flat3 L) → (w2.alloc (.cells #[.int .i64 a, .int .i64 b, .int .i64 v] 78)).grownBy w4 v2.ownBlock →
            w4.ownsRow wr.heap.size 78 3 v4 (i + 1) (flat3 L ++ [.int .i64 a, .int .i64 b, .int .i64 v]) →
            w4.cell? ⟨mb, 2, none⟩ = some (.slice ao i cap) ∧ w4.frozen? ⟨mb, 2, none⟩ = false ∧ (∃ rg', MN (w4.setCell ⟨mb, 2, none⟩ v4) mb rg' n room (L ++ [((a, b), v)]) ∧ (rg' = rg ∨ wr.heap.size ≤ rg')) ∧ Only (fun k => k = mb) wr (w4.setCell ⟨mb, 2, none⟩ v4) := by
          intro w2 w4 v2 v4 o2 own2 hgr own4
          have o4 : Only (fun _ => False) wr w4 := (o2.alloc _).grown hgr (fun k hk => .inr (own2.lt k hk).1)
          have k4 := o4.keep H1.out id
          have e4 : flat3 L ++ [.int .i64 a, .int .i64 b, .int .i64 v] = flat3 (L ++ [((a, b), v)]) := by rw [flat3_append]; rfl
          rw [e4] at own4
          obtain ⟨-, ao4, cap4, rfl, hc4, rg4, hr4, hcell⟩ := row3 own4
          obtain ⟨rfl, hb4, hl4⟩ := hr4 (by simp)
          have ho5 : Only (fun k => k = mb) w4 (w4.setCell ⟨mb, 2, none⟩ (.slice (some ⟨rg4, 0, none⟩) (L ++ [((a, b), v)]).length cap4)) := Only.setAt (Only.refl _ _) 2 _
          refine ⟨by rw [cell_of_row w4 _ _ _ _ _ k4, HLN.out]; rfl, free_of_row k4, ⟨rg4, ⟨_, cap4, ?_, hc4, fun _ => rfl, fun j u hj => ho5.cell (hcell j u hj) (fun e => by have e' : rg4 = mb := e; omega)⟩, .inr hb4⟩, (o4.mono (fun _ h => h.elim)).trans ho5 (fun _ _ h => h)⟩
          rw [hp_same k4]; simp
        have FIN := Lib.hid fin
        have HN : Hid (0 < i → ∃ aa, ao = some aa ∧ ∀ j u, (flat3 L)[j]? = some u → wr.cell? (aa.add j) = some u) := fun h0 => ⟨_, H3.out h0, fun j u hj => by rw [addr0]; exact H4.out j u hj⟩
        have hl3 : (flat3 L).length = i * 3 := by rw [flat3_length, HLN.out]
        have HL3 := Lib.hid hl3
        clear fin hl3
        go_wp2_with (first
          | (at_builtin; refine wpList_append_any rfl (.tmp 78) (.tmp 82) 71 rfl wr.heap.size 78 i0 (.agg #[.int .i64 0, .int .i64 0, .int .i64 0]) 3 24 Try.underlying71 hi hz0 hz1 hz2 rfl (by decide) _ 0 [] rfl (World.ownsRow_nil _ _ _ _) ao i cap (flat3 L) rfl HL3.out HN.out (flat3_one L) (by unfold maxLen; omega) (by omega) (by omega) ?_; intro v2 w3 own2 hgr2; have o3 : Only (fun _ => False) wr w3 := (Only.refl _ _).grown hgr2 (fun k hk => by cases hk); rw [Nat.zero_add, List.nil_append] at own2; have OWN2 := Lib.hid own2; have O3 := Lib.hid o3; have hsz3 := o3.size; clear own2 o3)
          | (at_builtin; refine wpList_append_own _ rfl (.tmp 85) (.tmp 90) 71 rfl wr.heap.size 78 i0 (.agg #[.int .i64 0, .int .i64 0, .int .i64 0]) 3 24 Try.underlying71 hi hz0 hz1 hz2 rfl (by decide) _ i _ rfl (OWN2.out.alloc _) ⟨w3.heap.size, 0, none⟩ 1 1 [.int .i64 a, .int .i64 b, .int .i64 v] rfl rfl (new_three _ _ _ _ _) (by simp [Value.oneCell']) (by unfold maxLen; omega) (by omega) (by simp; omega) ?_; intro v4 w4 own4 hgr4 _; obtain ⟨g4, cp4, rfl⟩ := ownsRow_succ own4; have F4 := Lib.hid (FIN.out w3 w4 _ _ O3.out OWN2.out hgr4 own4); have c4 := F4.out.1; have f4 := F4.out.2.1)
          | fail)
        go_ret
        exact ⟨rfl, F4.out.2.2.1, F4.out.2.2.2⟩

end Go.Proofs.Ytflcdbefakjcbaa
