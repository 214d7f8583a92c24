/- The walk of the law TokenScans: it returns true. -/
import Derived.Test.YtmoemnfflbielaaDoorT9
import Derived.Test.YtmoemnfflbielaaDoorT11
namespace Go.Proofs.YtmoemnfflbielaaDoor
open Go.RowKit Go.Gav Go.BigFrame Go.Shelf

theorem scanR_length (s : ByteArray) : (scanR s).1.length ≤ 16385 := by
  unfold scanR
  split
  · simp
  · have := items_length s
    simpa using this

set_option maxRecDepth 100000 in
set_option maxHeartbeats 1000000 in
theorem scans_walk (s : ByteArray) (hs : s.size ≤ 9223372036854775807) (w : World) (hm : MarksAt w) :
    Calls Tryd.prog 4 #[.string s] w fun e w' => e = .returned (.bool true) ∧ Only (fun _ => False) w w' := by
  have HM := Lib.hid hm
  have HS := Lib.hid (fun (hs : s.size ≤ 4000000000000000000) w hm => scan_at s hs w hm)
  have HF := Lib.hid (fun (hs : s.size ≤ 4000000000000000000) w => ref_scan s hs w)
  have hl := scanR_length s
  obtain ⟨⟨ts, a, er⟩, hr⟩ : ∃ r, r = scanR s := ⟨_, rfl⟩
  rw [← hr] at HS HF hl
  simp only at HS HF hl
  clear hm hr
  go_enter Tryd.func4, Tryd.ntmps4
  go_wp2_with (fail)
  refine (awake_true _ HM.out).mono ?_
  rintro _ w1 ⟨rfl, o1⟩
  have O1 := Lib.hid o1
  have HM1 := Lib.hid (HM.out.only o1 id)
  clear o1
  by_cases hbig : 30000 < s.size
  · have hb : (30000 : Int) < (s.size : Int) := by omega
    go_wp2_with (fail)
    refine (awake_true _ HM1.out).mono ?_
    rintro _ w2 ⟨rfl, o2⟩
    have O2 := Lib.hid (O1.out.trans o2 (fun _ _ h => h))
    clear o2
    go_wp2
    go_ret
    exact ⟨rfl, O2.out⟩
  · have hb : ¬ ((30000 : Int) < (s.size : Int)) := by omega
    go_wp2_with (fail)
    refine (HS.out (by omega) _ HM1.out).mono ?_
    rintro _ w2 ⟨v, rfl, h2, o2⟩
    have H2 := Lib.hid (ReadT.of_owns h2).2
    have O2 := Lib.hid (O1.out.trans o2 (fun _ _ h => h))
    clear h2 o2 O1
    go_wp2_with (fail)
    refine (HF.out (by omega) _).mono ?_
    rintro _ w3 ⟨v3, rfl, ⟨n3, h3⟩, o3⟩
    have H3 := Lib.hid (ReadT.of_owns h3).2
    have H2' := Lib.hid (H2.out.only o3 (fun _ _ => id))
    have O3 := Lib.hid (O2.out.trans o3 (fun _ _ h => h))
    have q1 : ((er : Int) == (er : Int)) = true := by simp
    have q2 : ((a : Int) == (a : Int)) = true := by simp
    clear h3 o3 O2 H2
    go_wp2_with (fail)
    refine (plain_at v ts _ H2'.out (by omega)).mono ?_
    rintro _ w4 ⟨v4, rfl, h4, o4⟩
    have H4 := Lib.hid (ReadT.of_owns h4).2
    have H3' := Lib.hid (H3.out.only o4 (fun _ _ => id))
    have O4 := Lib.hid (O3.out.trans o4 (fun _ _ h => h))
    clear h4 o4 O3 H3
    go_wp2_with (fail)
    refine (same_at v4 v3 ts _ H4.out H3'.out (by omega)).mono ?_
    rintro _ w5 ⟨rfl, o5⟩
    have O5 := Lib.hid (O4.out.trans o5 (fun _ _ h => h))
    clear o5
    go_wp2
    go_ret
    exact ⟨rfl, O5.out⟩

end Go.Proofs.YtmoemnfflbielaaDoor
