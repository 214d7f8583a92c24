/- The contract of slices.BinarySearchFunc. -/
import Derived.Test.YtofachfbphinaaaB4
import Derived.Tactics
import Derived.Deep.RegionHeld3
namespace Go.Proofs.Ytofachfbphinaaa
open Go.RowKit Go.Gav Go.BigFrame

/-- A slice's cells read as elements. -/
def ReadsM (w : World) (ao : Option Addr) (n : Nat) (el : Nat → Int × Int) : Prop :=
  0 < n → ∃ g, ao = some ⟨g, 0, none⟩ ∧ ∀ i, i < n → w.cell? ⟨g, i * 2, none⟩ = some (.int .i64 (el i).1) ∧ w.cell? ⟨g, i * 2 + 1, none⟩ = some (.int .i64 (el i).2)

theorem two_cells {w : World} {g : Nat} {u v : Value} {t : TypeId} (h : w.heap[g]? = some (.cells #[u, v] t (0, 0))) : w.cell? ⟨g, 0, none⟩ = some u ∧ w.cell? ⟨g, 1, none⟩ = some v :=
  ⟨by rw [cell_of_row w _ _ _ _ _ h]; rfl, by rw [cell_of_row w _ _ _ _ _ h]; rfl⟩

theorem ReadsM.only {S : Nat → Prop} {w w' : World} {ao : Option Addr} {n : Nat} {el : Nat → Int × Int} (h : ReadsM w ao n el) (ho : Only S w w') (hS : ∀ g, ao = some ⟨g, 0, none⟩ → ¬ S g) : ReadsM w' ao n el := by
  intro h0
  obtain ⟨g, e, hc⟩ := h h0
  refine ⟨g, e, fun i hi => ?_⟩
  exact ⟨ho.cell (hc i hi).1 (hS g e), ho.cell (hc i hi).2 (hS g e)⟩

/-- What the search answers: the first place from which on cm is not below 0. -/
def FoundM (cm : Int × Int → Int) (el : Nat → Int × Int) (n r : Nat) : Prop := r ≤ n ∧ (∀ k, k < r → cm (el k) < 0) ∧ (∀ k, r ≤ k → k < n → 0 ≤ cm (el k))
def FoundVM (cm : Int × Int → Int) (el : Nat → Int × Int) (n : Nat) (v : Value) : Prop := ∃ (r : Nat) (f : Bool), v = .tuple #[.int .i64 r, .bool f] ∧ FoundM cm el n r

set_option maxRecDepth 100000 in
set_option maxHeartbeats 1000000 in
theorem bsfM (ao : Option Addr) (n cap : Nat) (el : Nat → Int × Int) (tg : Int × Int) (cm : Int × Int → Int) (c : FuncId) (lb : Array Value) (w : World) (hn : n ≤ 1000) (hr : ReadsM w ao n el) (hen : ∀ args w, (callFunc c args).run Try.prog w = .ok (.enter c args) w)
    (hc : ∀ (x : Int × Int) w', Only (fun _ => False) w w' → Calls Try.prog c (#[.agg #[.int .i64 x.1, .int .i64 x.2], .agg #[.int .i64 tg.1, .int .i64 tg.2]] ++ lb) w' fun e w'' => e = .returned (.int .i64 (cm x)) ∧ Only (fun _ => False) w' w'')
    (hmono : ∀ a b, a ≤ b → b < n → cm (el b) < 0 → cm (el a) < 0) :
    Calls Try.prog 51 #[.slice ao n cap, .agg #[.int .i64 tg.1, .int .i64 tg.2], .func (.func c) #[] lb] w fun e w' => ∃ v : Value, e = .returned v ∧ FoundVM cm el n v ∧ Only (fun _ => False) w w' := by
  have HR := Lib.hid hr
  have HC := Lib.hid hc
  have HM := Lib.hid hmono
  clear hr hc hmono
  go_enter Try.func51, Try.ntmps51
  go_wp2
  go_loopw [9, 10, 11] (fun vi vj vh wr => ∃ lo hi : Nat, vi = .int .i64 lo ∧ vj = .int .i64 hi ∧ lo ≤ hi ∧ hi ≤ n ∧ Hid ((∀ k, k < lo → cm (el k) < 0) ∧ (∀ k, hi ≤ k → k < n → 0 ≤ cm (el k))) ∧ wr.heap[w.heap.size]? = some (.cells #[.int .i64 tg.1, .int .i64 tg.2] 49 (0, 0)) ∧ Only (fun _ => False) w wr) (fun vi vj _ _ => (intOf vj).toNat - (intOf vi).toNat)
  case atStart => exact ⟨0, n, rfl, rfl, Nat.zero_le _, Nat.le_refl _, ⟨fun k hk => by omega, fun k h1 h2 => by omega⟩, heap_alloc_new w _, (Only.refl _ _).alloc _⟩
  case round =>
    obtain ⟨lo, hi, rfl, rfl, hle, hhi, HI, hk, ho⟩ := hrel
    have HK := Lib.hid hk
    obtain ⟨y0, y1⟩ := two_cells hk
    clear hk
    have HO := Lib.hid ho
    clear ho
    by_cases hlt : lo < hi
    · obtain ⟨m, hm⟩ : ∃ m, m = (lo + hi) / 2 := ⟨_, rfl⟩
      have hmi : ((lo : Int) + (hi : Int)) / 2 = (m : Int) := by omega
      have hm1 : lo ≤ m := by omega
      have hm2 : m < hi := by omega
      clear hm
      obtain ⟨g, rfl, hcell⟩ := HR.out (by omega)
      have hx0 := hcell m (by omega)
      have x0 := HO.out.cell hx0.1 id
      have x1 := HO.out.cell hx0.2 id
      clear hx0 hcell
      obtain ⟨x, hx⟩ : ∃ x, x = el m := ⟨_, rfl⟩
      rw [← hx] at x0 x1
      have HX := Lib.hid hx
      have HCX := Lib.hid (fun w' h => HC.out x w' h)
      clear hx
      have hmi1 : (0 : Int) ≤ (m : Int) := by omega
      have hmi2 : (m : Int) < (n : Int) := by omega
      have hmi3 : m < n := by omega
      by_cases hneg : cm x < 0
      · have hO1 := HO.out
        go_wp2_with (fail)
        go_region_held3 (fun w' => w'.cell? ⟨g, m * 2, none⟩ = some (.int .i64 x.1) ∧ w'.cell? ⟨g, m * 2 + 1, none⟩ = some (.int .i64 x.2) ∧ w'.cell? ⟨w.heap.size, 0, none⟩ = some (.int .i64 tg.1) ∧ w'.cell? ⟨w.heap.size, 1, none⟩ = some (.int .i64 tg.2)) (first | exact ⟨x0, x1, y0, y1⟩ | exact ⟨o1.cell x0 id, o1.cell x1 id, o1.cell y0 id, o1.cell y1 id⟩) (first | (refine (HCX.out _ (HO.out.drewN _)).mono ?_; rintro _ w1 ⟨rfl, o1⟩))
        go_wp2
        go_roundw
        case rel => exact ⟨m + 1, hi, by go_num, rfl, by omega, hhi, ⟨fun k hk => HM.out k m (by omega) (by omega) (by rw [← HX.out]; exact hneg), HI.out.2⟩, o1.keep HK.out id, (HO.out.drewN 1).trans o1 (fun _ _ h => h)⟩
        case measure => simp [intOf]; omega
      · have hO1 := HO.out
        go_wp2_with (fail)
        go_region_held3 (fun w' => w'.cell? ⟨g, m * 2, none⟩ = some (.int .i64 x.1) ∧ w'.cell? ⟨g, m * 2 + 1, none⟩ = some (.int .i64 x.2) ∧ w'.cell? ⟨w.heap.size, 0, none⟩ = some (.int .i64 tg.1) ∧ w'.cell? ⟨w.heap.size, 1, none⟩ = some (.int .i64 tg.2)) (first | exact ⟨x0, x1, y0, y1⟩ | exact ⟨o1.cell x0 id, o1.cell x1 id, o1.cell y0 id, o1.cell y1 id⟩) (first | (refine (HCX.out _ (HO.out.drewN _)).mono ?_; rintro _ w1 ⟨rfl, o1⟩))
        go_wp2
        go_roundw
        case rel => exact ⟨lo, m, rfl, rfl, hm1, by omega, ⟨HI.out.1, fun k h1 h2 => Int.not_lt.1 (fun h3 => absurd (HM.out m k h1 h2 h3) (by rw [← HX.out]; exact Int.not_lt.2 hneg))⟩, o1.keep HK.out id, (HO.out.drewN 1).trans o1 (fun _ _ h => h)⟩
        case measure => simp [intOf]; omega
    · obtain rfl : lo = hi := by omega
      by_cases hln : lo < n
      · obtain ⟨g, rfl, hcell⟩ := HR.out (by omega)
        have hx0 := hcell lo (by omega)
        have x0 := HO.out.cell hx0.1 id
        have x1 := HO.out.cell hx0.2 id
        clear hx0 hcell
        obtain ⟨x, hx⟩ : ∃ x, x = el lo := ⟨_, rfl⟩
        rw [← hx] at x0 x1
        have HX := Lib.hid hx
        have HCX := Lib.hid (fun w' h => HC.out x w' h)
        clear hx
        go_wp2_with (fail)
        go_region_held3 (fun w' => w'.cell? ⟨g, lo * 2, none⟩ = some (.int .i64 x.1) ∧ w'.cell? ⟨g, lo * 2 + 1, none⟩ = some (.int .i64 x.2) ∧ w'.cell? ⟨w.heap.size, 0, none⟩ = some (.int .i64 tg.1) ∧ w'.cell? ⟨w.heap.size, 1, none⟩ = some (.int .i64 tg.2)) (first | exact ⟨x0, x1, y0, y1⟩ | exact ⟨o1.cell x0 id, o1.cell x1 id, o1.cell y0 id, o1.cell y1 id⟩) (first | (refine (HCX.out _ (HO.out.drewN _)).mono ?_; rintro _ w1 ⟨rfl, o1⟩))
        go_wp2
        go_ret2
        exact ⟨_, rfl, ⟨lo, _, rfl, hhi, HI.out.1, HI.out.2⟩, (HO.out.drewN 1).trans o1 (fun _ _ h => h)⟩
      · go_wp2_with (fail)
        have hd1 : decide (lo < n) = false := by simp; omega
        have hd2 : decide ((lo : Int) < (n : Int)) = false := by simp; omega
        go_quiet (fail)
        go_wp2
        go_ret2
        exact ⟨_, rfl, ⟨lo, _, rfl, hhi, HI.out.1, HI.out.2⟩, HO.out.drewN _⟩

end Go.Proofs.Ytofachfbphinaaa
