/- The contracts of the document's Same and Count. -/
import Derived.Test.YtofachfbphinaaaC17
namespace Go.Proofs.Ytofachfbphinaaa
open Go.RowKit Go.Gav Go.BigFrame

theorem list_eq_iff {xs ys : List (Int × Int)} (hl : xs.length = ys.length) : xs = ys ↔ ∀ i, i < xs.length → xs.getD i (0, 0) = ys.getD i (0, 0) := by
  constructor
  · intro h i _
    rw [h]
  · intro h
    apply List.ext_getElem hl
    intro i h1 h2
    have := h i h1
    simpa [List.getD_eq_getElem?_getD, h1, h2] using this

theorem neqM (x y : Int × Int) (h : ¬ x = y) (w : World) : (binOp BinOp.neq 49 (.agg #[.int .i64 x.1, .int .i64 x.2]) (.agg #[.int .i64 y.1, .int .i64 y.2])).run Try.prog w = .ok (.bool true) w := by
  by_cases h1 : x.1 = y.1
  · have h2 : ¬ x.2 = y.2 := fun h2 => h (Prod.ext h1 h2)
    go_simp
  · go_simp

set_option maxRecDepth 100000 in
set_option maxHeartbeats 1000000 in
theorem rsame_at (xs ys : List (Int × Int)) (ao ap : Option Addr) (cap cbp : Nat) (w : World) (hx : ReadsM w ao xs.length (fun i => xs.getD i (0, 0))) (hy : ReadsM w ap ys.length (fun i => ys.getD i (0, 0))) (hn : xs.length ≤ 1000) :
    Calls Try.prog 31 #[.slice ao xs.length cap, .slice ap ys.length cbp] w fun e w' => e = .returned (.bool (decide (xs = ys))) ∧ Only (fun _ => False) w w' := by
  by_cases hl : xs.length = ys.length
  · have hl' : (xs.length : Int) = (ys.length : Int) := by omega
    have HX := Lib.hid hx
    have HY := Lib.hid hy
    have HK := Lib.hid (list_eq_iff hl)
    have HL := Lib.hid hl
    clear hx hy hl
    go_enter Try.func31, Try.ntmps31
    go_wp2
    go_loopw [5] (fun vi wr => ∃ i : Nat, vi = .int .i64 i ∧ i ≤ xs.length ∧ Hid (∀ j, j < i → xs.getD j (0, 0) = ys.getD j (0, 0)) ∧ Hid (Only (fun _ => False) w wr)) (fun vi _ => xs.length - (intOf vi).toNat)
    case atStart => exact ⟨0, rfl, Nat.zero_le _, (fun j hj => by omega), Only.refl _ _⟩
    case round =>
      obtain ⟨i, rfl, hil, HI, HO⟩ := hrel
      by_cases hlt : i < xs.length
      · obtain ⟨g, rfl, hcx⟩ := HX.out (by omega)
        obtain ⟨g2, rfl, hcy⟩ := HY.out (by have := HL.out; omega)
        obtain ⟨x, hxe⟩ : ∃ x, x = xs.getD i (0, 0) := ⟨_, rfl⟩
        obtain ⟨y, hye⟩ : ∃ y, y = ys.getD i (0, 0) := ⟨_, rfl⟩
        have hly : i < ys.length := by have := HL.out; omega
        have x0 : wr.cell? ⟨g, i * 2, none⟩ = some (.int .i64 x.1) := by rw [hxe]; exact HO.out.cell (hcx i hlt).1 id
        have x1 : wr.cell? ⟨g, i * 2 + 1, none⟩ = some (.int .i64 x.2) := by rw [hxe]; exact HO.out.cell (hcx i hlt).2 id
        have y0 : wr.cell? ⟨g2, i * 2, none⟩ = some (.int .i64 y.1) := by rw [hye]; exact HO.out.cell (hcy i hly).1 id
        have y1 : wr.cell? ⟨g2, i * 2 + 1, none⟩ = some (.int .i64 y.2) := by rw [hye]; exact HO.out.cell (hcy i hly).2 id
        have HE := Lib.hid (And.intro hxe hye)
        clear hcx hcy hxe hye
        by_cases heq : x = y
        · have HEQ := Lib.hid heq
          have hne : ∀ w, (binOp BinOp.neq 49 (.agg #[.int .i64 x.1, .int .i64 x.2]) (.agg #[.int .i64 y.1, .int .i64 y.2])).run Try.prog w = .ok (.bool false) w := by
            intro w
            subst heq
            go_simp
          clear heq
          go_wp2_with (fail)
          go_region_held3 (fun w' => w'.cell? ⟨g, i * 2, none⟩ = some (.int .i64 x.1) ∧ w'.cell? ⟨g, i * 2 + 1, none⟩ = some (.int .i64 x.2) ∧ w'.cell? ⟨g2, i * 2, none⟩ = some (.int .i64 y.1) ∧ w'.cell? ⟨g2, i * 2 + 1, none⟩ = some (.int .i64 y.2)) (exact ⟨x0, x1, y0, y1⟩) (fail)
          go_wp2
          go_roundw
          case rel =>
            refine ⟨i + 1, by go_num, by omega, fun j hj => ?_, HO.out.drewN 1⟩
            rcases (by omega : j < i ∨ j = i) with h | rfl
            · exact HI.out j h
            · rw [← HE.out.1, ← HE.out.2]; exact HEQ.out
          case measure => simp [intOf]; omega
        · have HEQ := Lib.hid heq
          have hne : ∀ w, (binOp BinOp.neq 49 (.agg #[.int .i64 x.1, .int .i64 x.2]) (.agg #[.int .i64 y.1, .int .i64 y.2])).run Try.prog w = .ok (.bool true) w := by
            exact neqM x y heq
          clear heq
          go_wp2_with (fail)
          go_region_held3 (fun w' => w'.cell? ⟨g, i * 2, none⟩ = some (.int .i64 x.1) ∧ w'.cell? ⟨g, i * 2 + 1, none⟩ = some (.int .i64 x.2) ∧ w'.cell? ⟨g2, i * 2, none⟩ = some (.int .i64 y.1) ∧ w'.cell? ⟨g2, i * 2 + 1, none⟩ = some (.int .i64 y.2)) (exact ⟨x0, x1, y0, y1⟩) (fail)
          go_wp2
          go_ret
          refine ⟨?_, HO.out.drewN 1⟩
          have hd : decide (xs = ys) = false := by
            rw [decide_eq_false_iff_not, HK.out]
            intro h
            have := h i hlt
            rw [← HE.out.1, ← HE.out.2] at this
            exact HEQ.out this
          rw [hd]
          rfl
      · obtain rfl : i = xs.length := by omega
        have HD := Lib.hid (show decide (xs = ys) = true by rw [decide_eq_true_iff, HK.out]; exact HI.out)
        go_wp2
        go_ret
        refine ⟨?_, HO.out⟩
        rw [HD.out]
        rfl
  · have hd : decide (xs = ys) = false := by
      rw [decide_eq_false_iff_not]
      intro h
      exact hl (by rw [h])
    rw [hd]
    have hl' : ¬ (xs.length : Int) = (ys.length : Int) := by omega
    clear hd hx hy
    go_enter Try.func31, Try.ntmps31
    go_wp2
    go_ret
    exact ⟨rfl, Only.refl _ _⟩

theorem cntM_snoc (xs : List (Int × Int)) (n : Int) (i : Nat) (h : i < xs.length) : cntM (xs.take (i + 1)) (n, 0) = cntM (xs.take i) (n, 0) + if (xs.getD i (0, 0)).1 = n then 1 else 0 := by
  unfold cntM
  rw [List.take_succ_eq_append_getElem h, List.countP_append]
  simp [List.getD_eq_getElem?_getD, h, List.countP_cons]

set_option maxRecDepth 100000 in
theorem rcount_at (xs : List (Int × Int)) (n : Int) (ao : Option Addr) (cap : Nat) (w : World) (hx : ReadsM w ao xs.length (fun i => xs.getD i (0, 0))) (hn : xs.length ≤ 1000) :
    Calls Try.prog 28 #[.slice ao xs.length cap, .int .i64 n] w fun e w' => e = .returned (.int .i64 (cntM xs (n, 0))) ∧ w' = w := by
  have HX := Lib.hid hx
  clear hx
  go_enter Try.func28, Try.ntmps28
  go_wp2
  go_loopw [5, 6] (fun vk vi wr => ∃ i k : Nat, vk = .int .i64 k ∧ vi = .int .i64 i ∧ i ≤ xs.length ∧ k ≤ i ∧ Hid (k = cntM (xs.take i) (n, 0)) ∧ wr = w) (fun _ vi _ => xs.length - (intOf vi).toNat)
  case atStart => exact ⟨0, 0, rfl, rfl, Nat.zero_le _, Nat.le_refl _, rfl, rfl⟩
  case round =>
    obtain ⟨i, k, rfl, rfl, hil, hki, HK, rfl⟩ := hrel
    by_cases hlt : i < xs.length
    · obtain ⟨g, rfl, hcx⟩ := HX.out (by omega)
      obtain ⟨x, hxe⟩ : ∃ x, x = xs.getD i (0, 0) := ⟨_, rfl⟩
      have x0 := (hcx i hlt).1
      simp only [← hxe] at x0
      have HS := Lib.hid (hxe ▸ cntM_snoc xs n i hlt)
      clear hcx hxe
      by_cases heq : x.1 = n
      · have HEQ := Lib.hid heq
        have he : (x.1 == n) = true := by simpa using heq
        clear heq
        go_wp2
        go_roundw
        case rel => exact ⟨i + 1, k + 1, by go_num, by go_num, by omega, by omega, by have := HS.out; rw [if_pos HEQ.out, ← HK.out] at this; exact this.symm, trivial⟩
        case measure => simp [intOf]; omega
      · have HEQ := Lib.hid heq
        have he : (x.1 == n) = false := by simpa using heq
        clear heq
        go_wp2
        go_roundw
        case rel => exact ⟨i + 1, k, rfl, by go_num, by omega, by omega, by have := HS.out; rw [if_neg HEQ.out, ← HK.out] at this; exact this.symm, trivial⟩
        case measure => simp [intOf]; omega
    · obtain rfl : i = xs.length := by omega
      have HD := Lib.hid (show k = cntM xs (n, 0) by have := HK.out; rwa [List.take_length] at this)
      go_wp2
      go_ret
      refine ⟨?_, rfl⟩
      rw [← HD.out]
      rfl

end Go.Proofs.Ytofachfbphinaaa
