/- The contracts of EqualFunc and Same. -/
import Derived.Test.YtofachfbphinaaaC11
import Derived.Test.YtofachfbphinaaaC12
import Derived.Test.YtofachfbphinaaaC13
namespace Go.Proofs.Ytofachfbphinaaa
open Go.RowKit Go.Gav Go.BigFrame

set_option maxRecDepth 100000 in
theorem samecM (x y : Int × Int) (bx b : Nat) (w : World) (hbx : w.cell? ⟨bx, 0, none⟩ = some (.pointer (some ⟨b, 0, none⟩))) (hb : w.cell? ⟨b, 0, none⟩ = some (.func (.func 22) #[] #[])) :
    Calls Try.prog 47 #[.agg #[.int .i64 x.1, .int .i64 x.2], .agg #[.int .i64 y.1, .int .i64 y.2], .pointer (some ⟨bx, 0, none⟩)] w fun e w' => e = .returned (.bool (decide (x.1 = y.1))) ∧ Only (fun _ => False) w w' := by
  have hA : Only (fun _ => False) w ((w.alloc (Obj.cells #[Value.int .i64 x.1, .int .i64 x.2] 49)).alloc (Obj.cells #[Value.int .i64 y.1, .int .i64 y.2] 49)) := ((Only.refl _ _).alloc _).alloc _
  have HA := Lib.hid hA
  have a0 : ((w.alloc (Obj.cells #[Value.int .i64 x.1, .int .i64 x.2] 49)).alloc (Obj.cells #[Value.int .i64 y.1, .int .i64 y.2] 49)).heap[w.heap.size]? = some (.cells #[Value.int .i64 x.1, .int .i64 x.2] 49 (0, 0)) := hp_alloc (heap_alloc_new w _) _
  have a1 : ((w.alloc (Obj.cells #[Value.int .i64 x.1, .int .i64 x.2] 49)).alloc (Obj.cells #[Value.int .i64 y.1, .int .i64 y.2] 49)).heap[w.heap.size + 1]? = some (.cells #[Value.int .i64 y.1, .int .i64 y.2] 49 (0, 0)) := by
    have := heap_alloc_new (w.alloc (Obj.cells #[Value.int .i64 x.1, .int .i64 x.2] 49)) (Obj.cells #[Value.int .i64 y.1, .int .i64 y.2] 49)
    simpa using this
  obtain ⟨x0, x1⟩ := two_cells a0
  obtain ⟨y0, y1⟩ := two_cells a1
  have c0 := hA.cell hbx id
  have c1 := hA.cell hb id
  clear hA a0 a1
  have hle : decide (x.1 = y.1) = decide (sgn (x.1) (y.1) = 0) := by simp [sgn_zero]
  rw [hle]
  clear hle
  go_enter Try.func47, Try.ntmps47
  go_wp2_with (fail)
  go_region_held3 (fun w' => w'.cell? ⟨bx, 0, none⟩ = some (.pointer (some ⟨b, 0, none⟩)) ∧ w'.cell? ⟨b, 0, none⟩ = some (.func (.func 22) #[] #[]) ∧ w'.cell? ⟨w.heap.size, 0, none⟩ = some (.int .i64 x.1) ∧ w'.cell? ⟨w.heap.size, 1, none⟩ = some (.int .i64 x.2) ∧ w'.cell? ⟨w.heap.size + 1, 0, none⟩ = some (.int .i64 y.1) ∧ w'.cell? ⟨w.heap.size + 1, 1, none⟩ = some (.int .i64 y.2))
    (first | exact ⟨c0, c1, x0, x1, y0, y1⟩ | exact ⟨o1.cell c0 id, o1.cell c1 id, o1.cell x0 id, o1.cell x1 id, o1.cell y0 id, o1.cell y1 id⟩) (first | (go_at_call 22; refine (level_at x.1 x.2 y.1 y.2 _).mono ?_; rintro _ w1 ⟨rfl, o1⟩))
  go_wp2
  go_ret
  exact ⟨rfl, (HA.out.drewN 1).trans o1 (fun _ _ h => h)⟩

theorem enters_sameM : ∀ args w, (callFunc 47 args).run Try.prog w = .ok (.enter 47 args) w := by
  intro args w
  go_simp

/-- What two bags are told apart by. -/
def keysM (xs : List (Int × Int)) : List Int := xs.map fun x => x.1

theorem keysM_eq {xs ys : List (Int × Int)} (hl : xs.length = ys.length) : keysM xs = keysM ys ↔ ∀ i, i < xs.length → (xs.getD i (0, 0)).1 = (ys.getD i (0, 0)).1 := by
  constructor
  · intro h i hi
    have := congrArg (fun l => l[i]?) h
    simp only [keysM, List.getElem?_map, List.getElem?_eq_getElem hi, List.getElem?_eq_getElem (show i < ys.length by omega), Option.map_some, Option.some.injEq] at this
    simpa [List.getD_eq_getElem?_getD, hi, (show i < ys.length by omega)] using this
  · intro h
    apply List.ext_getElem
    · simp [keysM, hl]
    · intro i h1 h2
      simp only [keysM, List.length_map] at h1 h2
      have := h i h1
      simp only [keysM, List.getElem_map]
      simpa [List.getD_eq_getElem?_getD, h1, h2] using this

set_option maxRecDepth 100000 in
set_option maxHeartbeats 1000000 in
theorem eqfM (xs ys : List (Int × Int)) (ao ap : Option Addr) (cap cbp bx b : Nat) (w : World) (hx : ReadsM w ao xs.length (fun i => xs.getD i (0, 0))) (hy : ReadsM w ap ys.length (fun i => ys.getD i (0, 0))) (hn : xs.length ≤ 1000)
    (hbx : w.cell? ⟨bx, 0, none⟩ = some (.pointer (some ⟨b, 0, none⟩))) (hb : w.cell? ⟨b, 0, none⟩ = some (.func (.func 22) #[] #[])) :
    Calls Try.prog 46 #[.slice ao xs.length cap, .slice ap ys.length cbp, .func (.func 47) #[] #[.pointer (some ⟨bx, 0, none⟩)]] w fun e w' => e = .returned (.bool (decide (keysM xs = keysM ys))) ∧ Only (fun _ => False) w w' := by
  by_cases hl : xs.length = ys.length
  · have hl' : (xs.length : Int) = (ys.length : Int) := by omega
    have HX := Lib.hid hx
    have HY := Lib.hid hy
    have HK := Lib.hid (keysM_eq hl)
    have HL := Lib.hid hl
    have HC := Lib.hid (fun (x y : Int × Int) W (hW : Only (fun _ => False) w W) => samecM x y bx b W (hW.cell hbx id) (hW.cell hb id))
    have hen := enters_sameM
    rw [hl] at hx
    clear hx hy hl hbx hb
    go_enter Try.func46, Try.ntmps46
    go_wp2
    go_loopw [17] (fun vi wr => ∃ i : Nat, vi = .int .i64 i ∧ i ≤ xs.length ∧ Hid (∀ j, j < i → (xs.getD j (0, 0)).1 = (ys.getD j (0, 0)).1) ∧ Hid (Only (fun _ => False) w wr)) (fun vi _ => xs.length - (intOf vi).toNat)
    case atStart => exact ⟨0, rfl, Nat.zero_le _, (fun j hj => by omega), Only.refl _ _⟩
    case round =>
      obtain ⟨i, rfl, hil, HI, HO⟩ := hrel
      by_cases hlt : i < xs.length
      · obtain ⟨g, rfl, hcx⟩ := HX.out (by omega)
        obtain ⟨g2, rfl, hcy⟩ := HY.out (by have := HL.out; omega)
        obtain ⟨x, hxe⟩ : ∃ x, x = xs.getD i (0, 0) := ⟨_, rfl⟩
        obtain ⟨y, hye⟩ : ∃ y, y = ys.getD i (0, 0) := ⟨_, rfl⟩
        have HA := Lib.hid ((Only.refl (fun _ => False) wr).alloc (Obj.cells #[Value.int .i64 x.1, .int .i64 x.2] 49))
        have HA2 := Lib.hid (HA.out.alloc (Obj.cells #[Value.int .i64 y.1, .int .i64 y.2] 49))
        have x0 : wr.cell? ⟨g, i * 2, none⟩ = some (.int .i64 x.1) := by rw [hxe]; exact HO.out.cell (hcx i hlt).1 id
        have x1 : wr.cell? ⟨g, i * 2 + 1, none⟩ = some (.int .i64 x.2) := by rw [hxe]; exact HO.out.cell (hcx i hlt).2 id
        have y0 : (wr.alloc (Obj.cells #[Value.int .i64 x.1, .int .i64 x.2] 49)).cell? ⟨g2, i * 2, none⟩ = some (.int .i64 y.1) := by rw [hye]; exact HA.out.cell (HO.out.cell (hcy i (by have := HL.out; omega)).1 id) id
        have y1 : (wr.alloc (Obj.cells #[Value.int .i64 x.1, .int .i64 x.2] 49)).cell? ⟨g2, i * 2 + 1, none⟩ = some (.int .i64 y.2) := by rw [hye]; exact HA.out.cell (HO.out.cell (hcy i (by have := HL.out; omega)).2 id) id
        obtain ⟨z0, z1⟩ := two_cells (hp_alloc (heap_alloc_new wr (Obj.cells #[Value.int .i64 x.1, .int .i64 x.2] 49)) (Obj.cells #[Value.int .i64 y.1, .int .i64 y.2] 49))
        have hly : i < ys.length := by have := HL.out; omega
        have HE := Lib.hid (And.intro hxe hye)
        clear hcx hcy hxe hye
        by_cases heq : x.1 = y.1
        · have HDD := Lib.hid (show decide (x.1 = y.1) = true by simp [heq])
          have HEQ := Lib.hid heq
          have HCX := Lib.hid (fun W hW => (HC.out x y W hW).mono (fun e w' h => (⟨by rw [h.1, HDD.out], h.2⟩ : e = .returned (.bool true) ∧ Only (fun _ => False) W w')))
          clear heq
          go_wp2_with (first | (refine (HCX.out _ (HO.out.trans HA2.out (fun _ _ h => h))).mono ?_; rintro _ w1 ⟨rfl, o1⟩))
          go_roundw
          case rel =>
            refine ⟨i + 1, by go_num, by omega, fun j hj => ?_, (HO.out.trans HA2.out (fun _ _ h => h)).trans o1 (fun _ _ h => h)⟩
            rcases (by omega : j < i ∨ j = i) with h | rfl
            · exact HI.out j h
            · rw [← HE.out.1, ← HE.out.2]; exact HEQ.out
          case measure => simp [intOf]; omega
        · have HDD := Lib.hid (show decide (x.1 = y.1) = false by simp [heq])
          have HEQ := Lib.hid heq
          have HCX := Lib.hid (fun W hW => (HC.out x y W hW).mono (fun e w' h => (⟨by rw [h.1, HDD.out], h.2⟩ : e = .returned (.bool false) ∧ Only (fun _ => False) W w')))
          clear heq
          go_wp2_with (first | (refine (HCX.out _ (HO.out.trans HA2.out (fun _ _ h => h))).mono ?_; rintro _ w1 ⟨rfl, o1⟩))
          go_ret
          refine ⟨?_, (HO.out.trans HA2.out (fun _ _ h => h)).trans o1 (fun _ _ h => h)⟩
          have hd : decide (keysM xs = keysM ys) = false := by
            rw [decide_eq_false_iff_not, HK.out]
            intro h
            have := h i hlt
            rw [← HE.out.1, ← HE.out.2] at this
            exact HEQ.out this
          rw [hd]
          rfl
      · obtain rfl : i = xs.length := by omega
        have HD := Lib.hid (show decide (keysM xs = keysM ys) = true by rw [decide_eq_true_iff, HK.out]; exact HI.out)
        go_wp2
        go_ret
        refine ⟨?_, HO.out⟩
        rw [HD.out]
        rfl
  · have hd : decide (keysM xs = keysM ys) = false := by
      rw [decide_eq_false_iff_not]
      intro h
      have := congrArg List.length h
      simp [keysM] at this
      exact hl this
    rw [hd]
    have hl' : ¬ (xs.length : Int) = (ys.length : Int) := by omega
    clear hd hx hy hbx hb
    go_enter Try.func46, Try.ntmps46
    go_wp2
    go_ret
    exact ⟨rfl, Only.refl _ _⟩

end Go.Proofs.Ytofachfbphinaaa
