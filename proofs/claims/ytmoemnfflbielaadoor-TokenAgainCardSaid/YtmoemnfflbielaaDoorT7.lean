/- The contracts of the law's own plain, and of the document's Same, at equal words. -/
import Derived.Test.YtmoemnfflbielaaDoorT6
import Derived.Laws.StructEq
import Derived.Laws.AppendOwn
import Derived.Deep.QuietTactic
import Derived.BigQuiet
namespace Go.Proofs.YtmoemnfflbielaaDoor
open Go.RowKit Go.Gav Go.BigFrame Go.Shelf

theorem neq_tok (T : TypeId) (hT : T = 28 ∨ T = 41) (t : Tok) (w : World) : (binOp .neq T (.agg (tokC t)) (.agg (tokC t))).run Tryd.prog w = .ok (.bool false) w := by
  have u3 := Tryd.underlying3
  have a3 := Tryd.isAgg3
  have z3 := Tryd.sizeOf3
  have u9 := Tryd.underlying9
  have a9 := Tryd.isAgg9
  have z9 := Tryd.sizeOf9
  rcases hT with rfl | rfl
  · have hS : Tryd.prog.underlying 28 = some (.struct (Tryd.prog.fieldsOf 28)) := by kernel_rfl
    have hp : Tryd.prog.stoodInHeld 28 = false := by kernel_rfl
    simp only [tokC]
    rw [run_neq_struct, show (10000 : Nat) = 9999 + 1 from rfl, run_equalIn_agg w 9999 28 _ _ hS hp]
    simp only [Program.fieldsOf, Tryd.underlying28]
    go_simp
  · have hS : Tryd.prog.underlying 41 = some (.struct (Tryd.prog.fieldsOf 41)) := by kernel_rfl
    have hp : Tryd.prog.stoodInHeld 41 = false := by kernel_rfl
    simp only [tokC]
    rw [run_neq_struct, show (10000 : Nat) = 9999 + 1 from rfl, run_equalIn_agg w 9999 41 _ _ hS hp]
    simp only [Program.fieldsOf, Tryd.underlying41]
    go_simp

theorem eql_tok (t : Tok) (w : World) : (binOp .eql 28 (.agg (tokC t)) (.agg (tokC t))).run Tryd.prog w = .ok (.bool true) w := by
  have u3 := Tryd.underlying3
  have a3 := Tryd.isAgg3
  have z3 := Tryd.sizeOf3
  have u9 := Tryd.underlying9
  have a9 := Tryd.isAgg9
  have z9 := Tryd.sizeOf9
  have hS : Tryd.prog.underlying 28 = some (.struct (Tryd.prog.fieldsOf 28)) := by kernel_rfl
  have hp : Tryd.prog.stoodInHeld 28 = false := by kernel_rfl
  simp only [tokC]
  rw [run_eql_struct, show (10000 : Nat) = 9999 + 1 from rfl, run_equalIn_agg w 9999 28 _ _ hS hp]
  simp only [Program.fieldsOf, Tryd.underlying28]
  go_simp

/-- A word out of a list. -/
def noTok : Tok := ⟨0, ByteArray.empty, 0, 0⟩
def atT (ts : List Tok) (i : Nat) : Tok := ts.getD i noTok

/-- A slice that reads as words. -/
def ReadT (w : World) (v : Value) (ts : List Tok) : Prop :=
  ∃ ao cap, v = .slice ao ts.length cap ∧ (0 < ts.length → ∃ g, ao = some ⟨g, 0, none⟩ ∧ ∀ i, i < ts.length → ∀ j x, (tokC (atT ts i))[j]? = some x → w.cell? ⟨g, i * 4 + j, none⟩ = some x)

theorem flatT_get : ∀ (ts : List Tok) (i j : Nat) (x : Value), i < ts.length → (tokC (atT ts i))[j]? = some x → (flatT ts)[i * 4 + j]? = some x
  | t :: ts, 0, j, x, _, hx => by
    have hj : j < 4 := by
      rcases Nat.lt_or_ge j 4 with h | h
      · exact h
      · rw [Array.getElem?_eq_none (by simpa [tokC] using h)] at hx; cases hx
    rw [flatT, List.getElem?_append_left (by simp [tokC]; omega)]
    simpa [atT] using hx
  | t :: ts, i + 1, j, x, hi, hx => by
    rw [flatT, List.getElem?_append_right (by simp [tokC]; omega)]
    have := flatT_get ts i j x (by simpa using hi) (by simpa [atT] using hx)
    rw [← this]
    congr 1
    simp [tokC]
    omega

theorem ReadT.of_owns {w : World} {base n e : Nat} {v : Value} {ts : List Tok} (h : w.ownsRow base e 4 v n (flatT ts)) : n = ts.length ∧ ReadT w v ts := by
  have hl := h.1
  rw [flatT_length] at hl
  obtain rfl : n = ts.length := by omega
  refine ⟨rfl, ?_⟩
  rcases h.2 with ⟨rfl, h0⟩ | ⟨g, cap, cur, rfl, hb, hgg, hn, hc, hs, ht⟩
  · exact ⟨none, 0, by rw [h0], fun h => by omega⟩
  · refine ⟨_, cap, rfl, fun _ => ⟨g, rfl, fun i hi j x hx => ?_⟩⟩
    have hj : j < 4 := by
      rcases Nat.lt_or_ge j 4 with h | h
      · exact h
      · rw [Array.getElem?_eq_none (by simpa [tokC] using h)] at hx; cases hx
    rw [cell_of_row w g _ _ _ _ hgg]
    have h1 := flatT_get ts i j x hi hx
    rw [← ht, List.getElem?_take, if_pos (by omega)] at h1
    rw [← Array.getElem?_toList]
    exact h1

theorem ReadT.only {S : Nat → Prop} {w w' : World} {v : Value} {ts : List Tok} (h : ReadT w v ts) (ho : Only S w w') (hS : ∀ k, k < w.heap.size → ¬ S k) : ReadT w' v ts := by
  obtain ⟨ao, cap, e, h0⟩ := h
  refine ⟨ao, cap, e, fun hp => ?_⟩
  obtain ⟨g, e2, hr⟩ := h0 hp
  refine ⟨g, e2, fun i hi j x hx => ?_⟩
  have := hr i hi j x hx
  exact ho.cell this (hS _ (World.block_lt_of_cell? w _ this))

theorem ReadT.four {w : World} {g : Nat} {t : Tok} {o : Nat} (h : ∀ j x, (tokC t)[j]? = some x → w.cell? ⟨g, o + j, none⟩ = some x) :
    w.cell? ⟨g, o, none⟩ = some (.int .i64 t.kind) ∧ w.cell? ⟨g, o + 1, none⟩ = some (.string t.S) ∧ w.cell? ⟨g, o + 2, none⟩ = some (.int .i64 t.N) ∧ w.cell? ⟨g, o + 3, none⟩ = some (.int .i64 t.At) :=
  ⟨h 0 _ rfl, h 1 _ rfl, h 2 _ rfl, h 3 _ rfl⟩

set_option maxRecDepth 100000 in
set_option maxHeartbeats 1000000 in
theorem same_at (v1 v2 : Value) (ts : List Tok) (w : World) (h1 : ReadT w v1 ts) (h2 : ReadT w v2 ts) (hs : ts.length ≤ 100000) :
    Calls Tryd.prog 11 #[v1, v2] w fun e w' => e = .returned (.bool true) ∧ Only (fun _ => False) w w' := by
  obtain ⟨ao1, cap1, rfl, r1⟩ := h1
  obtain ⟨ao2, cap2, rfl, r2⟩ := h2
  obtain ⟨n, hn⟩ : ∃ n, n = ts.length := ⟨_, rfl⟩
  rw [← hn] at hs r1 r2 ⊢
  have R1 := Lib.hid r1
  have R2 := Lib.hid r2
  have hnn : ((n : Int) != (n : Int)) = false := by simp
  have hnq := neq_tok 41 (.inr rfl)
  have HQ := Lib.hid hnq
  have hm : Tryd.prog.eqGuardType Tryd.prog.depth 41 = false := by kernel_rfl
  clear r1 r2 hn hnq
  go_enter Tryd.func11, Tryd.ntmps11
  go_wp2
  go_loopw [5] (fun vi wr => ∃ i : Nat, i ≤ n ∧ vi = .int .i64 i ∧ Only (fun _ => False) w wr) (fun vi _ => n - (intOf vi).toNat)
  case atStart => exact ⟨0, Nat.zero_le _, rfl, Only.refl _ _⟩
  case round =>
    obtain ⟨i, hi, rfl, ho⟩ := hrel
    have HO := Lib.hid ho
    clear ho
    by_cases hlt : i < n
    · obtain ⟨g1, rfl, q1⟩ := R1.out (by omega)
      obtain ⟨g2, rfl, q2⟩ := R2.out (by omega)
      obtain ⟨t, ht⟩ : ∃ t, t = atT ts i := ⟨_, rfl⟩
      have q1 := q1 i hlt
      have q2 := q2 i hlt
      rw [← ht] at q1 q2
      obtain ⟨a0, a1, a2, a3⟩ := ReadT.four (fun j x hx => HO.out.cell (q1 j x hx) id)
      obtain ⟨b0, b1, b2, b3⟩ := ReadT.four (fun j x hx => HO.out.cell (q2 j x hx) id)
      have hnq := HQ.out t
      simp only [tokC] at hnq
      clear q1 q2 ht
      go_wp2
      go_quiet (fail)
      go_wp2
      go_roundw
      case rel => exact ⟨i + 1, by omega, by go_num, HO.out.drewN _⟩
      case measure => simp [intOf]; omega
    · go_wp2
      go_ret
      exact ⟨rfl, HO.out⟩

theorem info41 : (Tryd.prog.info? 41).map (fun i => (i.zero, i.size, i.bytes)) = some (some (.agg #[.int .i64 0, .string { data := #[] }, .int .i64 0, .int .i64 0]), 4, 40) := by kernel_rfl

theorem take_snocT (ts : List Tok) (i : Nat) (hi : i < ts.length) : ts.take (i + 1) = ts.take i ++ [atT ts i] := by
  rw [List.take_succ_eq_append_getElem hi]
  simp [atT, hi]

set_option maxRecDepth 100000 in
set_option maxHeartbeats 1000000 in
theorem plain_at (v : Value) (ts : List Tok) (w : World) (h : ReadT w v ts) (hs : ts.length ≤ 100000) :
    Calls Tryd.prog 12 #[v] w fun e w' => ∃ v', e = .returned v' ∧ w'.ownsRow w.heap.size 41 4 v' ts.length (flatT ts) ∧ Only (fun _ => False) w w' := by
  obtain ⟨i0, hi0, hz0, hz1, hz2⟩ := info_parts info41
  obtain ⟨ao, cap, rfl, r1⟩ := h
  obtain ⟨n, hn⟩ : ∃ n, n = ts.length := ⟨_, rfl⟩
  rw [← hn] at hs r1 ⊢
  have R1 := Lib.hid r1
  have HN := Lib.hid hn
  clear r1 hn
  go_enter Tryd.func12, Tryd.ntmps12
  go_wp2
  go_loopw [3, 4] (fun vs vi wr => ∃ i : Nat, i ≤ n ∧ vi = .int .i64 i ∧ wr.ownsRow w.heap.size 41 4 vs i (flatT (ts.take i)) ∧ Only (fun _ => False) w wr) (fun _ vi _ => n - (intOf vi).toNat)
  case atStart => exact ⟨0, Nat.zero_le _, rfl, by simpa [flatT] using World.ownsRow_nil w w.heap.size 41 4, Only.refl _ _⟩
  case round =>
    obtain ⟨i, hi, rfl, hown, ho⟩ := hrel
    have HO := Lib.hid ho
    have HOWN := Lib.hid hown
    have hsz := ho.size
    clear ho hown
    by_cases hlt : i < n
    · obtain ⟨g1, rfl, q1⟩ := R1.out (by omega)
      obtain ⟨t, ht⟩ : ∃ t, t = atT ts i := ⟨_, rfl⟩
      have q1 := q1 i hlt
      rw [← ht] at q1
      obtain ⟨a0, a1, a2, a3⟩ := ReadT.four (fun j x hx => HO.out.cell (q1 j x hx) id)
      have HT := Lib.hid ht
      clear q1 ht
      go_wp2
      refine wp_region_mixed [0] [1, 2, 3, 4, 5, 6, 7, 8, 9, 10, 11, 12, 13, 14, 15, 16, 17, 18, 19, 20, 21] 22 [23, 24] (by kernel_rfl) (by kernel_rfl) (fun _ _ _ _ h => h) ?_
      simp only [pick, consO, List.getElem?_toArray, List.getElem?_cons_succ, List.getElem?_cons_zero, movesOf, moveOf]
      conv => arg 6; simp [Act.put, Act.eval]
      repeat (go_big_quiet_step (fail))
      refine wpQuiet_nil ?_
      rintro _ ⟨nq, rfl⟩
      have HOWN' : Hid ((wr.drewN nq).ownsRow w.heap.size 41 4 u3 i (flatT (ts.take i))) := HOWN.out
      have HO' : Hid (Only (fun _ => False) w (wr.drewN nq)) := HO.out.drewN nq
      have hsz' : w.heap.size ≤ (wr.drewN nq).heap.size := hsz
      clear HOWN HO a0 a1 a2 a3
      generalize wr.drewN nq = wq at *
      go_wp2_with (at_builtin; refine wpList_append_own _ rfl (.tmp 11) (.tmp 33) 31 rfl w.heap.size 41 i0 (.agg #[.int .i64 0, .string { data := #[] }, .int .i64 0, .int .i64 0]) 4 40 Tryd.underlying31 hi0 hz0 hz1 hz2 rfl (by decide) _ i _ rfl (HOWN'.out.alloc _) ⟨wq.heap.size, 0, none⟩ 1 1 [.int .i64 t.kind, .string t.S, .int .i64 t.N, .int .i64 t.At] rfl rfl (new_cells _ _ _) (by simp [Value.oneCell']) (by unfold maxLen; omega) (by omega) (by simp; omega) ?_; intro vd wd ownd hgrd _; have OWND := Lib.hid ownd; have OD := Lib.hid (((HO'.out.alloc _).grown hgrd (fun q hq => .inr (HOWN'.out.lt q hq).1)) : Only (fun _ => False) w wd); clear ownd hgrd)
      go_roundw
      case rel =>
        refine ⟨i + 1, by omega, by go_num, ?_, OD.out⟩
        rw [take_snocT ts i (by rw [← HN.out]; exact hlt), flatT_append, ← HT.out]
        exact OWND.out
      case measure => simp [intOf]; omega
    · have hin : i = n := by omega
      go_wp2
      go_ret
      refine ⟨_, rfl, ?_, HO.out⟩
      have e := HOWN.out
      rw [hin, show ts.take n = ts by rw [HN.out]; exact List.take_length] at e
      exact e

end Go.Proofs.YtmoemnfflbielaaDoor
