/- The contract of slices.BinarySearchFunc. -/
import Derived.Test.YtofachfbphinaaaB4
import Derived.Tactics
import Derived.Deep.RegionHeld3
namespace Go.Proofs.Ytofachfbphinaaa
open Go.RowKit Go.Gav Go.BigFrame

/-- A slice's cells read as elements. -/
def ReadsI (w : World) (ao : Option Addr) (n : Nat) (el : Nat → Int) : Prop :=
  0 < n → ∃ g, ao = some ⟨g, 0, none⟩ ∧ ∀ i, i < n → w.cell? ⟨g, i, none⟩ = some (.int .i64 (el i))

theorem ReadsI.only {S : Nat → Prop} {w w' : World} {ao : Option Addr} {n : Nat} {el : Nat → Int} (h : ReadsI w ao n el) (ho : Only S w w') (hS : ∀ g, ao = some ⟨g, 0, none⟩ → ¬ S g) : ReadsI w' ao n el := by
  intro h0
  obtain ⟨g, e, hc⟩ := h h0
  refine ⟨g, e, fun i hi => ?_⟩
  exact ho.cell (hc i hi) (hS g e)

/-- What the search answers: the first place from which on cm is not below 0. -/
def FoundI (cm : Int → Int) (el : Nat → Int) (n r : Nat) : Prop := r ≤ n ∧ (∀ k, k < r → cm (el k) < 0) ∧ (∀ k, r ≤ k → k < n → 0 ≤ cm (el k))
def FoundVI (cm : Int → Int) (el : Nat → Int) (n : Nat) (v : Value) : Prop := ∃ (r : Nat) (f : Bool), v = .tuple #[.int .i64 r, .bool f] ∧ FoundI cm el n r

set_option maxRecDepth 100000 in
set_option maxHeartbeats 1000000 in
theorem bsfI (ao : Option Addr) (n cap : Nat) (el : Nat → Int) (tg : Int) (cm : Int → Int) (c : FuncId) (lb : Array Value) (w : World) (hn : n ≤ 1000) (hr : ReadsI w ao n el) (hen : ∀ args w, (callFunc c args).run Try.prog w = .ok (.enter c args) w)
    (hc : ∀ (x : Int) w', Only (fun _ => False) w w' → Calls Try.prog c (#[.int .i64 x, .int .i64 tg] ++ lb) w' fun e w'' => e = .returned (.int .i64 (cm x)) ∧ Only (fun _ => False) w' w'')
    (hmono : ∀ a b, a ≤ b → b < n → cm (el b) < 0 → cm (el a) < 0) :
    Calls Try.prog 49 #[.slice ao n cap, .int .i64 tg, .func (.func c) #[] lb] w fun e w' => ∃ v : Value, e = .returned v ∧ FoundVI cm el n v ∧ Only (fun _ => False) w w' := by
  have HR := Lib.hid hr
  have HC := Lib.hid hc
  have HM := Lib.hid hmono
  clear hr hc hmono
  go_enter Try.func49, Try.ntmps49
  go_wp2
  go_loopw [9, 10, 11] (fun vi vj vh wr => ∃ lo hi : Nat, vi = .int .i64 lo ∧ vj = .int .i64 hi ∧ lo ≤ hi ∧ hi ≤ n ∧ Hid ((∀ k, k < lo → cm (el k) < 0) ∧ (∀ k, hi ≤ k → k < n → 0 ≤ cm (el k))) ∧ Only (fun _ => False) w wr) (fun vi vj _ _ => (intOf vj).toNat - (intOf vi).toNat)
  case atStart => exact ⟨0, n, rfl, rfl, Nat.zero_le _, Nat.le_refl _, ⟨fun k hk => by omega, fun k h1 h2 => by omega⟩, Only.refl _ _⟩
  case round =>
    obtain ⟨lo, hi, rfl, rfl, hle, hhi, HI, ho⟩ := hrel
    
    have HO := Lib.hid ho
    clear ho
    by_cases hlt : lo < hi
    · obtain ⟨m, hm⟩ : ∃ m, m = (lo + hi) / 2 := ⟨_, rfl⟩
      have hmi : ((lo : Int) + (hi : Int)) / 2 = (m : Int) := by omega
      have hm1 : lo ≤ m := by omega
      have hm2 : m < hi := by omega
      clear hm
      obtain ⟨g, rfl, hcell⟩ := HR.out (by omega)
      have hx0 := hcell m (by omega)
      have x0 := HO.out.cell hx0 id
      clear hx0 hcell
      obtain ⟨x, hx⟩ : ∃ x, x = el m := ⟨_, rfl⟩
      rw [← hx] at x0
      have HX := Lib.hid hx
      have HCX := Lib.hid (fun w' h => HC.out x w' h)
      clear hx
      by_cases hneg : cm x < 0
      · have hO1 := HO.out
        go_wp2_with (first | (refine (HCX.out _ HO.out).mono ?_; rintro _ w1 ⟨rfl, o1⟩))
        go_roundw
        case rel => exact ⟨m + 1, hi, by go_num, rfl, by omega, hhi, ⟨fun k hk => HM.out k m (by omega) (by omega) (by rw [← HX.out]; exact hneg), HI.out.2⟩, HO.out.trans o1 (fun _ _ h => h)⟩
        case measure => simp [intOf]; omega
      · have hO1 := HO.out
        go_wp2_with (first | (refine (HCX.out _ HO.out).mono ?_; rintro _ w1 ⟨rfl, o1⟩))
        go_roundw
        case rel => exact ⟨lo, m, rfl, rfl, hm1, by omega, ⟨HI.out.1, fun k h1 h2 => Int.not_lt.1 (fun h3 => absurd (HM.out m k h1 h2 h3) (by rw [← HX.out]; exact Int.not_lt.2 hneg))⟩, HO.out.trans o1 (fun _ _ h => h)⟩
        case measure => simp [intOf]; omega
    · obtain rfl : lo = hi := by omega
      by_cases hln : lo < n
      · obtain ⟨g, rfl, hcell⟩ := HR.out (by omega)
        have hx0 := hcell lo (by omega)
        have x0 := HO.out.cell hx0 id
        clear hx0 hcell
        obtain ⟨x, hx⟩ : ∃ x, x = el lo := ⟨_, rfl⟩
        rw [← hx] at x0
        have HX := Lib.hid hx
        have HCX := Lib.hid (fun w' h => HC.out x w' h)
        clear hx
        go_wp2_with (first | (refine (HCX.out _ HO.out).mono ?_; rintro _ w1 ⟨rfl, o1⟩))
        
        go_ret2
        exact ⟨_, rfl, ⟨lo, _, rfl, hhi, HI.out.1, HI.out.2⟩, HO.out.trans o1 (fun _ _ h => h)⟩
      · go_wp2_with (fail)
        go_ret2
        refine ⟨_, rfl, ⟨lo, _, rfl, hhi, HI.out.1, HI.out.2⟩, HO.out⟩

end Go.Proofs.Ytofachfbphinaaa
