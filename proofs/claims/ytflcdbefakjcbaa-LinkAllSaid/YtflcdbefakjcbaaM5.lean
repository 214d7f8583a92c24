/- The contract of Take of the document's net. -/
import Derived.Test.YtflcdbefakjcbaaM4
namespace Go.Proofs.Ytflcdbefakjcbaa
open Go.RowKit Go.Gav Go.BigFrame

theorem onL_nil_snoc {L : List It} {i : Nat} {x : En} (h : i < L.length) (h0 : onL (L.take i) x = []) (hne : L[i].1 ≠ x) : onL (L.take (i + 1)) x = [] := by
  rw [take_snoc3 L i h]
  have := onL_snoc_ne (L.take i) x L[i].1 L[i].2 hne
  rw [this, h0]
theorem onL_append (L M : List It) (x : En) : onL (L ++ M) x = onL L x ++ onL M x := by simp [onL]
theorem onL_cons (y : It) (L : List It) (x : En) : onL (y :: L) x = (if y.1 = x then [y.2] else []) ++ onL L x := by
  by_cases h : y.1 = x <;> simp [onL, h]
theorem split_at {L : List It} {i : Nat} (h : i < L.length) : L = L.take i ++ (L[i] :: L.drop (i + 1)) := by simp

/-- What taking the item at place i does. -/
theorem onL_cut {L : List It} {i : Nat} {x : En} (h : i < L.length) (h0 : onL (L.take i) x = []) (he : L[i].1 = x) :
    onL L x = L[i].2 :: onL (L.take i ++ L.drop (i + 1)) x ∧ ∀ y, y ≠ x → onL (L.take i ++ L.drop (i + 1)) y = onL L y := by
  constructor
  · conv => lhs; rw [split_at h]
    rw [onL_append, onL_append, onL_cons, h0, if_pos he]
    rfl
  · intro y hy
    conv => rhs; rw [split_at h]
    rw [onL_append, onL_append, onL_cons, if_neg (fun e => hy (e.symm.trans he))]
    rfl

set_option maxRecDepth 100000 in
set_option maxHeartbeats 2000000 in
theorem dtake (a b : Int) (mb rg n room : Nat) (L : List It) (w : World) (h : MN w mb rg n room L) (hlen : L.length ≤ 300) :
    Calls Try.prog 34 #[.pointer (some ⟨mb, 0, none⟩), .int .i64 a, .int .i64 b] w fun e w' => e = .returned (headV (onL L (a, b))) ∧
      (∃ rg' L', MN w' mb rg' n room L' ∧ (rg' = rg ∨ w.heap.size ≤ rg') ∧ (∀ x, onL L' x = upd (onL L) (a, b) (onL L (a, b)).tail x) ∧ (∀ y ∈ L', y ∈ L) ∧ L'.length ≤ L.length) ∧ Only (fun k => k = mb) w w' := by
  obtain ⟨i0, hi, hz0, hz1, hz2⟩ := info_parts info78
  have hM := h
  obtain ⟨ao, cap, h1, h2, h3, h4⟩ := h
  have c2 : w.cell? ⟨mb, 2, none⟩ = some (.slice ao L.length cap) := by rw [cell_of_row w _ _ _ _ _ h1]; rfl
  have hmb := lt_of_block h1
  have HM := Lib.hid hM
  have H1 := Lib.hid h1
  have H3 := Lib.hid h3
  have H4 := Lib.hid h4
  obtain ⟨len, hln⟩ : ∃ x, x = L.length := ⟨_, rfl⟩
  rw [← hln] at c2 hlen H3 h2
  have HLN := Lib.hid hln
  clear h1 h3 h4 hln hM
  go_enter Try.func34, Try.ntmps34
  go_wp2
  go_loopw [8] (fun vi wr => ∃ i : Nat, vi = .int .i64 i ∧ i ≤ len ∧ Hid (onL (L.take i) (a, b) = []) ∧ wr = w) (fun vi _ => len - (intOf vi).toNat)
  case atStart => exact ⟨0, rfl, Nat.zero_le _, rfl, rfl⟩
  case round =>
    obtain ⟨i, rfl, hil, HC, rfl⟩ := hrel
    by_cases hlt : i < len
    · obtain rfl := H3.out (by omega)
      have hiL : i < L.length := by rw [← HLN.out]; exact hlt
      obtain ⟨e0, e1, e2⟩ := mem_cells H4.out i hiL
      obtain ⟨⟨⟨x, y⟩, z⟩, hx⟩ : ∃ x, x = L[i] := ⟨_, rfl⟩
      rw [← hx] at e0 e1 e2
      have HX := Lib.hid hx
      simp only at e0 e1 e2
      clear hx
      by_cases hxy : x = a ∧ y = b
      · obtain ⟨rfl, rfl⟩ := hxy
        obtain ⟨k1, k2⟩ := onL_cut hiL HC.out (by rw [← HX.out])
        rw [← HX.out] at k1
        simp only at k1
        have hnews1 : (flat3 (L.take i)).length = i * 3 := by rw [flat3_length, List.length_take]; omega
        have hnews2 : (flat3 (L.drop (i + 1))).length = (len - (i + 1)) * 3 := by rw [flat3_length, List.length_drop, HLN.out]
        obtain ⟨L', hL'⟩ : ∃ L', L' = L.take i ++ L.drop (i + 1) := ⟨_, rfl⟩
        have hL2 : flat3 (L.take i) ++ flat3 (L.drop (i + 1)) = flat3 L' := by rw [hL', flat3_append]
        rw [← hL'] at k1 k2
        have hmem : ∀ q ∈ L', q ∈ L := fun q hq => by
          rw [hL'] at hq
          rcases List.mem_append.1 hq with h | h
          · exact List.mem_of_mem_take h
          · exact List.mem_of_mem_drop h
        have hlen' : L'.length + 1 = len := by rw [hL', List.length_append, List.length_take, List.length_drop, ← HLN.out]; omega
        have HON := Lib.hid (show ∀ q, onL L' q = upd (onL L) (x, y) (onL L (x, y)).tail q from fun q => by
          unfold upd
          split
          · rename_i e; subst e; rw [k1]; rfl
          · rename_i e; exact k2 q e)
        have hv : headV (onL L (x, y)) = .tuple #[.int .i64 z, .bool true] := by rw [k1]; rfl
        have HV := Lib.hid hv
        have HMEM := Lib.hid hmem
        have HLEN := Lib.hid hlen'
        have HL2 := Lib.hid hL2
        have HN1 := Lib.hid hnews1
        have HN2 := Lib.hid hnews2
        clear k1 k2 hv hmem hlen' hL2 hnews1 hnews2 hL'
        have HC1 : Hid (0 < i → ∃ aa, (some ⟨rg, 0, none⟩ : Option Addr) = some aa ∧ ∀ j u, (flat3 (L.take i))[j]? = some u → wr.cell? (aa.add j) = some u) := fun h0 => ⟨_, rfl, fun j u hj => by
          rw [addr0]
          rw [flat3_take] at hj
          refine H4.out j u ?_
          have hjl := (List.getElem?_eq_some_iff.1 hj).1
          rw [List.length_take] at hjl
          rwa [List.getElem?_take_of_lt (by omega)] at hj⟩
        have HC2 : Hid (∀ j u, (flat3 (L.drop (i + 1)))[j]? = some u → wr.cell? ⟨rg, (i + 1) * 3 + j, none⟩ = some u) := fun j u hj => by
          rw [flat3_drop] at hj
          exact H4.out _ u hj
        have fin : ∀ (w3 w4 : World) (v2 v4 : Value), Only (fun _ => False) wr w3 → w3.ownsRow wr.heap.size 78 3 v2 i (flat3 (L.take i)) → w3.grownBy w4 v2.ownBlock →
            w4.ownsRow wr.heap.size 78 3 v4 (i + (len - (i + 1))) (flat3 (L.take i) ++ flat3 (L.drop (i + 1))) →
            ∃ ao4 n4 cap4, v4 = .slice ao4 n4 cap4 ∧ w4.cell? ⟨mb, 2, none⟩ = some (.slice (some ⟨rg, 0, none⟩) len cap) ∧ w4.frozen? ⟨mb, 2, none⟩ = false ∧
              (∃ rg', MN (w4.setCell ⟨mb, 2, none⟩ (.slice ao4 n4 cap4)) mb rg' n room L' ∧ (rg' = rg ∨ wr.heap.size ≤ rg')) ∧ Only (fun k => k = mb) wr (w4.setCell ⟨mb, 2, none⟩ (.slice ao4 n4 cap4)) := by
          intro w3 w4 v2 v4 o3 own2 hgr own4
          have o4 : Only (fun _ => False) wr w4 := o3.grown hgr (fun k hk => .inr (own2.lt k hk).1)
          have k4 := o4.keep H1.out id
          rw [HL2.out] at own4
          obtain ⟨-, ao4, cap4, rfl, hc4, rg4, hr4, hcell⟩ := row3 own4
          have ho5 : Only (fun k => k = mb) w4 (w4.setCell ⟨mb, 2, none⟩ (.slice ao4 L'.length cap4)) := Only.setAt (Only.refl _ _) 2 _
          refine ⟨ao4, _, cap4, rfl, by rw [cell_of_row w4 _ _ _ _ _ k4, HLN.out]; rfl, free_of_row k4, ?_, (o4.mono (fun _ h => h.elim)).trans ho5 (fun _ _ h => h)⟩
          have hblk : w4.setCell ⟨mb, 2, none⟩ (.slice ao4 L'.length cap4) |>.heap[mb]? = some (.cells #[.int .i64 n, .int .i64 room, .slice ao4 L'.length cap4] 73 (0, 0)) := by
            rw [hp_same k4]; simp
          rcases Nat.eq_zero_or_pos L'.length with h0 | h0
          · refine ⟨rg, ⟨_, cap4, hblk, hc4, fun h => by omega, fun j u hj => ?_⟩, .inl rfl⟩
            have : L' = [] := List.eq_nil_of_length_eq_zero h0
            rw [this] at hj
            simp [flat3] at hj
          · obtain ⟨rfl, hb4, hl4⟩ := hr4 h0
            exact ⟨rg4, ⟨_, cap4, hblk, hc4, fun _ => rfl, fun j u hj => ho5.cell (hcell j u hj) (fun e => by have e' : rg4 = mb := e; omega)⟩, .inr hb4⟩
        have FIN := Lib.hid fin
        clear fin
        have O0 : Hid (∀ (v2 : Value) (w3 : World), w3.ownsRow wr.heap.size 78 3 v2 (0 + i) ([] ++ flat3 (L.take i)) → wr.grownBy w3 (Value.ownBlock (.slice none 0 0)) → w3.ownsRow wr.heap.size 78 3 v2 i (flat3 (L.take i)) ∧ Only (fun _ => False) wr w3 ∧ w3.cell? ⟨mb, 2, none⟩ = some (.slice (some ⟨rg, 0, none⟩) len cap)) := by
          intro v2 w3 own hgr
          have o3 : Only (fun _ => False) wr w3 := (Only.refl _ _).grown hgr (fun k hk => by cases hk)
          rw [Nat.zero_add, List.nil_append] at own
          exact ⟨own, o3, o3.cell c2 id⟩
        by_cases hcap : cap = i + 1
        · have hli : len = i + 1 := by omega
          have hd0 : (flat3 (L.drop (i + 1))).length = 0 * 3 := by rw [HN2.out, hli]; simp
          have HD0 := Lib.hid hd0
          clear hd0
          go_wp2_with (first
            | (at_builtin; refine wpList_append_any rfl (.tmp 50) (.tmp 56) 71 rfl wr.heap.size 78 i0 (.agg #[.int .i64 0, .int .i64 0, .int .i64 0]) 3 24 Try.underlying71 hi hz0 hz1 hz2 rfl (by decide) _ 0 [] rfl (World.ownsRow_nil _ _ _ _) (some ⟨rg, 0, none⟩) i _ (flat3 (L.take i)) rfl HN1.out HC1.out (flat3_one _) (by unfold maxLen; omega) (by omega) (by omega) ?_; intro v2 w3 own2 hgr2; have F2 := Lib.hid (O0.out v2 w3 own2 hgr2); have c3 := F2.out.2.2; have hsz3 := F2.out.2.1.size; clear own2 hgr2)
            | (at_builtin; refine wpList_append_any rfl (.tmp 59) (.tmp 66) 71 rfl wr.heap.size 78 i0 (.agg #[.int .i64 0, .int .i64 0, .int .i64 0]) 3 24 Try.underlying71 hi hz0 hz1 hz2 rfl (by decide) _ i (flat3 (L.take i)) rfl F2.out.1 (some ⟨rg, 0, none⟩) 0 _ (flat3 (L.drop (i + 1))) rfl HD0.out (fun h => absurd h (by omega)) (flat3_one _) (by unfold maxLen; omega) (by omega) (by omega) ?_; intro v4 w4 own4 hgr4; rw [show i + 0 = i + (len - (i + 1)) by omega] at own4; obtain ⟨ao4, n4, cap4, rfl, hf4⟩ := FIN.out w3 w4 v2 v4 F2.out.2.1 F2.out.1 hgr4 own4; have c4 := hf4.1; have f4 := hf4.2.1; have F4 := Lib.hid hf4.2.2; clear hf4 own4 hgr4)
            | fail)
          go_ret2
          exact ⟨by rw [HV.out]; rfl, ⟨_, L', F4.out.1.choose_spec.1, F4.out.1.choose_spec.2, fun a b => HON.out (a, b), fun a b c => HMEM.out ((a, b), c), by have := HLEN.out; have := HLN.out; omega⟩, F4.out.2⟩
        · have HC3 : Hid (∀ w3, Only (fun _ => False) wr w3 → 0 < len - (i + 1) → ∃ aa, (some ⟨rg, (i + 1) * 3, none⟩ : Option Addr) = some aa ∧ ∀ j u, (flat3 (L.drop (i + 1)))[j]? = some u → w3.cell? (aa.add j) = some u) := fun w3 o3 h0 => ⟨_, rfl, fun j u hj => by rw [addr1]; exact o3.cell (HC2.out j u hj) id⟩
          go_wp2_with (first
            | (at_builtin; refine wpList_append_any rfl (.tmp 50) (.tmp 56) 71 rfl wr.heap.size 78 i0 (.agg #[.int .i64 0, .int .i64 0, .int .i64 0]) 3 24 Try.underlying71 hi hz0 hz1 hz2 rfl (by decide) _ 0 [] rfl (World.ownsRow_nil _ _ _ _) (some ⟨rg, 0, none⟩) i _ (flat3 (L.take i)) rfl HN1.out HC1.out (flat3_one _) (by unfold maxLen; omega) (by omega) (by omega) ?_; intro v2 w3 own2 hgr2; have F2 := Lib.hid (O0.out v2 w3 own2 hgr2); have c3 := F2.out.2.2; have hsz3 := F2.out.2.1.size; clear own2 hgr2)
            | (at_builtin; refine wpList_append_any rfl (.tmp 59) (.tmp 66) 71 rfl wr.heap.size 78 i0 (.agg #[.int .i64 0, .int .i64 0, .int .i64 0]) 3 24 Try.underlying71 hi hz0 hz1 hz2 rfl (by decide) _ i (flat3 (L.take i)) rfl F2.out.1 (some ⟨rg, (i + 1) * 3, none⟩) (len - (i + 1)) _ (flat3 (L.drop (i + 1))) rfl HN2.out (HC3.out _ F2.out.2.1) (flat3_one _) (by unfold maxLen; omega) (by omega) (by omega) ?_; intro v4 w4 own4 hgr4; obtain ⟨ao4, n4, cap4, rfl, hf4⟩ := FIN.out w3 w4 v2 v4 F2.out.2.1 F2.out.1 hgr4 own4; have c4 := hf4.1; have f4 := hf4.2.1; have F4 := Lib.hid hf4.2.2; clear hf4 own4 hgr4)
            | fail)
          go_ret2
          exact ⟨by rw [HV.out]; rfl, ⟨_, L', F4.out.1.choose_spec.1, F4.out.1.choose_spec.2, fun a b => HON.out (a, b), fun a b c => HMEM.out ((a, b), c), by have := HLEN.out; have := HLN.out; omega⟩, F4.out.2⟩
      · have hc2 : onL (L.take (i + 1)) (a, b) = [] := onL_nil_snoc hiL HC.out (fun e => hxy (by rw [← HX.out] at e; simpa using e))
        have HC2 := Lib.hid hc2
        clear hc2 e2
        by_cases hxa : x = a
        · subst hxa
          have hyb' : (y == b) = false := by simpa using hxy
          clear hxy
          go_wp2
          go_roundw
          case rel => exact ⟨i + 1, by go_num, by omega, HC2, by first | rfl | trivial⟩
          case measure => simp [intOf]; omega
        · have hxa' : (x == a) = false := by simpa using hxa
          clear hxy hxa
          go_wp2
          go_roundw
          case rel => exact ⟨i + 1, by go_num, by omega, HC2, by first | rfl | trivial⟩
          case measure => simp [intOf]; omega
    · obtain rfl : i = len := by omega
      have hc := HC.out
      rw [HLN.out, List.take_length] at hc
      have HCC := Lib.hid hc
      clear hc HC
      go_wp2
      go_ret2
      refine ⟨by rw [HCC.out]; rfl, ⟨rg, L, HM.out, .inl rfl, fun q => ?_, fun _ h => h, Nat.le_refl _⟩, Only.refl _ _⟩
      unfold upd
      split
      · rename_i e; subst e; rw [HCC.out]; rfl
      · rfl

end Go.Proofs.Ytflcdbefakjcbaa
