/- The contracts of EqualFunc and Same. -/
import Derived.Test.YtofachfbphinaaaC11
import Derived.Test.YtofachfbphinaaaC12
namespace Go.Proofs.Ytofachfbphinaaa
open Go.RowKit Go.Gav Go.BigFrame

set_option maxRecDepth 100000 in
theorem samecI (x y : Int) (bx b : Nat) (w : World) (hbx : w.cell? ⟨bx, 0, none⟩ = some (.pointer (some ⟨b, 0, none⟩))) (hb : w.cell? ⟨b, 0, none⟩ = some (.func (.func 11) #[] #[])) :
    Calls Try.prog 37 #[.int .i64 x, .int .i64 y, .pointer (some ⟨bx, 0, none⟩)] w fun e w' => e = .returned (.bool (decide (x = y))) ∧ Only (fun _ => False) w w' := by
  have hle : decide (x = y) = decide (sgn (x) (y) = 0) := by simp [sgn_zero]
  rw [hle]
  clear hle
  go_enter Try.func37, Try.ntmps37
  go_wp2_with (first | (go_at_call 11; refine (order_at x y _).mono ?_; rintro _ w1 ⟨rfl, o1⟩))
  go_ret
  exact ⟨rfl, o1⟩

theorem enters_sameI : ∀ args w, (callFunc 37 args).run Try.prog w = .ok (.enter 37 args) w := by
  intro args w
  go_simp

/-- What two bags are told apart by. -/
def keysI (xs : List (Int)) : List Int := xs.map fun x => x

theorem keysI_eq {xs ys : List (Int)} (hl : xs.length = ys.length) : keysI xs = keysI ys ↔ ∀ i, i < xs.length → (xs.getD i 0) = (ys.getD i 0) := by
  constructor
  · intro h i hi
    have := congrArg (fun l => l[i]?) h
    simp only [keysI, List.getElem?_map, List.getElem?_eq_getElem hi, List.getElem?_eq_getElem (show i < ys.length by omega), Option.map_some, Option.some.injEq] at this
    simpa [List.getD_eq_getElem?_getD, hi, (show i < ys.length by omega)] using this
  · intro h
    apply List.ext_getElem
    · simp [keysI, hl]
    · intro i h1 h2
      simp only [keysI, List.length_map] at h1 h2
      have := h i h1
      simp only [keysI, List.getElem_map]
      simpa [List.getD_eq_getElem?_getD, h1, h2] using this

set_option maxRecDepth 100000 in
set_option maxHeartbeats 1000000 in
theorem eqfI (xs ys : List (Int)) (ao ap : Option Addr) (cap cbp bx b : Nat) (w : World) (hx : ReadsI w ao xs.length (fun i => xs.getD i 0)) (hy : ReadsI w ap ys.length (fun i => ys.getD i 0)) (hn : xs.length ≤ 1000)
    (hbx : w.cell? ⟨bx, 0, none⟩ = some (.pointer (some ⟨b, 0, none⟩))) (hb : w.cell? ⟨b, 0, none⟩ = some (.func (.func 11) #[] #[])) :
    Calls Try.prog 36 #[.slice ao xs.length cap, .slice ap ys.length cbp, .func (.func 37) #[] #[.pointer (some ⟨bx, 0, none⟩)]] w fun e w' => e = .returned (.bool (decide (keysI xs = keysI ys))) ∧ Only (fun _ => False) w w' := by
  by_cases hl : xs.length = ys.length
  · have hl' : (xs.length : Int) = (ys.length : Int) := by omega
    have HX := Lib.hid hx
    have HY := Lib.hid hy
    have HK := Lib.hid (keysI_eq hl)
    have HL := Lib.hid hl
    have HC := Lib.hid (fun (x y : Int) W (hW : Only (fun _ => False) w W) => samecI x y bx b W (hW.cell hbx id) (hW.cell hb id))
    have hen := enters_sameI
    rw [hl] at hx
    clear hx hy hl hbx hb
    go_enter Try.func36, Try.ntmps36
    go_wp2
    go_loopw [17] (fun vi wr => ∃ i : Nat, vi = .int .i64 i ∧ i ≤ xs.length ∧ Hid (∀ j, j < i → (xs.getD j 0) = (ys.getD j 0)) ∧ Hid (Only (fun _ => False) w wr)) (fun vi _ => xs.length - (intOf vi).toNat)
    case atStart => exact ⟨0, rfl, Nat.zero_le _, (fun j hj => by omega), Only.refl _ _⟩
    case round =>
      obtain ⟨i, rfl, hil, HI, HO⟩ := hrel
      by_cases hlt : i < xs.length
      · obtain ⟨g, rfl, hcx⟩ := HX.out (by omega)
        obtain ⟨g2, rfl, hcy⟩ := HY.out (by have := HL.out; omega)
        obtain ⟨x, hxe⟩ : ∃ x, x = xs.getD i 0 := ⟨_, rfl⟩
        obtain ⟨y, hye⟩ : ∃ y, y = ys.getD i 0 := ⟨_, rfl⟩
        have x0 : wr.cell? ⟨g, i, none⟩ = some (.int .i64 x) := by rw [hxe]; exact HO.out.cell (hcx i hlt) id
        have y0 : wr.cell? ⟨g2, i, none⟩ = some (.int .i64 y) := by rw [hye]; exact HO.out.cell (hcy i (by have := HL.out; omega)) id
        have hly : i < ys.length := by have := HL.out; omega
        have HE := Lib.hid (And.intro hxe hye)
        clear hcx hcy hxe hye
        by_cases heq : x = y
        · have HDD := Lib.hid (show decide (x = y) = true by simp [heq])
          have HEQ := Lib.hid heq
          have HCX := Lib.hid (fun W hW => (HC.out x y W hW).mono (fun e w' h => (⟨by rw [h.1, HDD.out], h.2⟩ : e = .returned (.bool true) ∧ Only (fun _ => False) W w')))
          clear heq
          go_wp2_with (first | (refine (HCX.out _ HO.out).mono ?_; rintro _ w1 ⟨rfl, o1⟩))
          go_roundw
          case rel =>
            refine ⟨i + 1, by go_num, by omega, fun j hj => ?_, HO.out.trans o1 (fun _ _ h => h)⟩
            rcases (by omega : j < i ∨ j = i) with h | rfl
            · exact HI.out j h
            · rw [← HE.out.1, ← HE.out.2]; exact HEQ.out
          case measure => simp [intOf]; omega
        · have HDD := Lib.hid (show decide (x = y) = false by simp [heq])
          have HEQ := Lib.hid heq
          have HCX := Lib.hid (fun W hW => (HC.out x y W hW).mono (fun e w' h => (⟨by rw [h.1, HDD.out], h.2⟩ : e = .returned (.bool false) ∧ Only (fun _ => False) W w')))
          clear heq
          go_wp2_with (first | (refine (HCX.out _ HO.out).mono ?_; rintro _ w1 ⟨rfl, o1⟩))
          go_ret
          refine ⟨?_, HO.out.trans o1 (fun _ _ h => h)⟩
          have hd : decide (keysI xs = keysI ys) = false := by
            rw [decide_eq_false_iff_not, HK.out]
            intro h
            have := h i hlt
            rw [← HE.out.1, ← HE.out.2] at this
            exact HEQ.out this
          rw [hd]
          rfl
      · obtain rfl : i = xs.length := by omega
        have HD := Lib.hid (show decide (keysI xs = keysI ys) = true by rw [decide_eq_true_iff, HK.out]; exact HI.out)
        go_wp2
        go_ret
        refine ⟨?_, HO.out⟩
        rw [HD.out]
        rfl
  · have hd : decide (keysI xs = keysI ys) = false := by
      rw [decide_eq_false_iff_not]
      intro h
      have := congrArg List.length h
      simp [keysI] at this
      exact hl this
    rw [hd]
    have hl' : ¬ (xs.length : Int) = (ys.length : Int) := by omega
    clear hd hx hy hbx hb
    go_enter Try.func36, Try.ntmps36
    go_wp2
    go_ret
    exact ⟨rfl, Only.refl _ _⟩

end Go.Proofs.Ytofachfbphinaaa
