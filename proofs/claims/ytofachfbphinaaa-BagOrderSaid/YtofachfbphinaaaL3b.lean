/- The walk of the law BagOrder at an empty list, and where too much is asked. -/
import Derived.Test.YtofachfbphinaaaL3
namespace Go.Proofs.Ytofachfbphinaaa
open Go.RowKit Go.Gav Go.BigFrame

theorem run_append_zero {P : Program} (w : World) (t ty e : TypeId) (i : TypeInfo) (ht : P.underlying t = some (.slice e)) (hi : P.info? e = some i) (b a : Option Addr) (c : Nat) :
    (Builtin.append_ #[t, t] ty #[.slice b 0 0, .slice a 0 c]).run P w = .ok (.slice b 0 0) w := by
  cases b <;> cases a <;> simp [Builtin.append_, run_underlying ht, sizeOf, typeInfo, hi, Builtin.lenOf, Builtin.firstCells, storeCells, loadCells, loadCellsFrom]

theorem argI_nil (w : World) (ao : Option Addr) : ArgI w (fun _ => False) ao [] := fun h => by simp at h

set_option maxRecDepth 100000 in
set_option maxHeartbeats 4000000 in
theorem order_walk_nil (a : Option Addr) (cap : Nat) (a1 : Option Addr) (len1 cap1 : Nat) (cut : Int) (w : World) (h2 : len1 ≤ 200) :
    Calls Try.prog 3 #[.slice a 0 cap, .slice a1 len1 cap1, .int .u8 cut] w fun e w' => e = .returned (.bool true) ∧ Only (fun _ => False) w w' := by
  obtain ⟨i0, hi0, hz0, hz1, hz2⟩ := info_parts info3
  have hrun : ∀ (w : World) g, (Builtin.append_ #[22, 22] 22 #[.slice (some ⟨g, 0, none⟩) 0 0, .slice a 0 cap]).run Try.prog w = .ok (.slice (some ⟨g, 0, none⟩) 0 0) w := fun w g => run_append_zero w 22 22 3 i0 Try.underlying22 hi0 (some ⟨g, 0, none⟩) a cap
  have HRUN := Lib.hid hrun
  clear hrun
  have hg2 : ¬ ((len1 : Int) > 200) := by omega
  go_enter Try.func3, Try.ntmps3
  go_wp2_with (first | (go_at_call 9; refine (awake_at _).mono ?_; rintro _ w1 ⟨rfl, o1⟩; have O1 := Lib.hid o1; clear o1) | (at_builtin; refine Lib.wpList_append_run _ rfl (.tmp 30) (.tmp 31) 22 22 rfl _ _ rfl rfl _ _ (HRUN.out _ _) ?_))
  go_loopw [8] (fun vi wr => vi = .int .i64 0 ∧ Hid (Only (fun _ => False) w wr)) (fun vi _ => 0)
  case atStart => exact ⟨rfl, O1.out.alloc _⟩
  case round =>
    obtain ⟨rfl, HO⟩ := hrel
    by_cases hlt : (0 : Int) < len1
    all_goals
      go_wp2_with (fail)
      refine (newI_n [] a 0 cap wr rfl (argI_nil _ _) (by decide)).mono ?_
      rintro _ w3 ⟨vx, rfl, hx, o3⟩
      have O3 := Lib.hid o3
      have HX := Lib.hid (fun W (h : Only (fun _ => False) w3 W) => hx.only h id (fun _ _ => id))
      clear hx o3
      go_wp2_with (fail)
      refine (newI_n [] _ 0 _ w3 rfl (argI_nil _ _) (by decide)).mono ?_
      rintro _ w4 ⟨vy, rfl, hy, o4⟩
      have O4 := Lib.hid o4
      have HYB := Lib.hid (fun W (h : Only (fun _ => False) w4 W) => hy.only h id (fun _ _ => id))
      clear hy o4
      go_wp2_with (fail)
      refine (newI_n [] _ 0 _ w4 rfl (argI_nil _ _) (by decide)).mono ?_
      rintro _ w5 ⟨va, rfl, ha, o5⟩
      have O5 := Lib.hid o5
      have HAB := Lib.hid (fun W (h : Only (fun _ => False) w5 W) => ha.only h id (fun _ _ => id))
      clear ha o5
      go_wp2_with (fail)
      refine (newI_n [] _ 0 _ w5 rfl (argI_nil _ _) (by decide)).mono ?_
      rintro _ w6 ⟨vb, rfl, hb, o6⟩
      have O6 := Lib.hid o6
      have HBB := Lib.hid (fun W (h : Only (fun _ => False) w6 W) => hb.only h id (fun _ _ => id))
      clear hb o6
      go_wp2_with (fail)
      refine (sameI_yes _ _ vx vy (sortI []) w6 (HX.out _ ((O4.out.trans O5.out (fun _ _ h => h)).trans O6.out (fun _ _ h => h))) (HYB.out _ (O5.out.trans O6.out (fun _ _ h => h))) (by decide)).mono ?_
      rintro _ w7 ⟨rfl, o7⟩
      have O7 := Lib.hid o7
      clear o7
      go_wp2_with (fail)
      refine (mergeI_s _ _ va vb [] [] [] w7 (HAB.out _ (O6.out.trans O7.out (fun _ _ h => h))) (HBB.out _ O7.out) (List.Perm.refl _) (by decide)).mono ?_
      rintro _ w8 ⟨vm, rfl, hm, o8⟩
      have O8 := Lib.hid o8
      have HM := Lib.hid hm
      clear hm o8
      have O48 := Lib.hid ((((O4.out.trans O5.out (fun _ _ h => h)).trans O6.out (fun _ _ h => h)).trans O7.out (fun _ _ h => h)).trans O8.out (fun _ _ h => h))
      go_wp2_with (fail)
      refine (sameI_yes _ _ vx vm (sortI []) w8 (HX.out _ O48.out) HM.out (by decide)).mono ?_
      rintro _ w9 ⟨rfl, o9⟩
      have O9 := Lib.hid o9
      clear o9
      go_wp2_with (fail)
      refine (mergeI_s _ _ vb va [] [] [] w9 (HBB.out _ ((O7.out.trans O8.out (fun _ _ h => h)).trans O9.out (fun _ _ h => h))) (HAB.out _ (((O6.out.trans O7.out (fun _ _ h => h)).trans O8.out (fun _ _ h => h)).trans O9.out (fun _ _ h => h))) (List.Perm.refl _) (by decide)).mono ?_
      rintro _ w10 ⟨vm2, rfl, hm, o10⟩
      have O10 := Lib.hid o10
      have HM2 := Lib.hid hm
      clear hm o10
      have O410 := Lib.hid ((O48.out.trans O9.out (fun _ _ h => h)).trans O10.out (fun _ _ h => h))
      go_wp2_with (fail)
      refine (sameI_yes _ _ vm2 vy (sortI []) w10 HM2.out (HYB.out _ (((((O5.out.trans O6.out (fun _ _ h => h)).trans O7.out (fun _ _ h => h)).trans O8.out (fun _ _ h => h)).trans O9.out (fun _ _ h => h)).trans O10.out (fun _ _ h => h))) (by decide)).mono ?_
      rintro _ w11 ⟨rfl, o11⟩
      have O11 := Lib.hid (O410.out.trans o11 (fun _ _ h => h))
      clear o11
      go_wp2_with (fail)
      refine (lenI_n _ vx (sortI []) 0 w11 (HX.out _ O11.out) rfl).mono ?_
      rintro _ _ ⟨rfl, rfl⟩
      go_wp2_with (fail)
      go_ret
      exact ⟨rfl, (HO.out.trans O3.out (fun _ _ h => h)).trans O11.out (fun _ _ h => h)⟩

set_option maxRecDepth 100000 in
theorem order_big (a : Option Addr) (len cap : Nat) (a1 : Option Addr) (len1 cap1 : Nat) (cut : Int) (w : World) (h : 200 < len ∨ 200 < len1) :
    Calls Try.prog 3 #[.slice a len cap, .slice a1 len1 cap1, .int .u8 cut] w fun e w' => e = .returned (.bool true) ∧ Only (fun _ => False) w w' := by
  by_cases h1 : 200 < len
  · have hg1 : ((len : Int) > 200) := by omega
    clear h
    go_enter Try.func3, Try.ntmps3
    go_wp2_with (fail)
    refine (awake_at _).mono ?_
    rintro _ w1 ⟨rfl, o1⟩
    have O1 := Lib.hid o1
    clear o1
    go_wp2_with (fail)
    refine (awake_at _).mono ?_
    rintro _ w2 ⟨rfl, o2⟩
    have O2 := Lib.hid (O1.out.trans o2 (fun _ _ h => h))
    clear o2
    go_wp2
    go_ret
    exact ⟨rfl, O2.out⟩
  · have h2 : 200 < len1 := by omega
    have hg1 : ¬ ((len : Int) > 200) := by omega
    have hg2 : ((len1 : Int) > 200) := by omega
    clear h
    go_enter Try.func3, Try.ntmps3
    go_wp2_with (fail)
    refine (awake_at _).mono ?_
    rintro _ w1 ⟨rfl, o1⟩
    have O1 := Lib.hid o1
    clear o1
    go_wp2_with (fail)
    refine (awake_at _).mono ?_
    rintro _ w2 ⟨rfl, o2⟩
    have O2 := Lib.hid (O1.out.trans o2 (fun _ _ h => h))
    clear o2
    go_wp2
    go_ret
    exact ⟨rfl, O2.out⟩

end Go.Proofs.Ytofachfbphinaaa
