/- The document's example on queues answers true, and leaves all that there was as it was. -/
import Derived.Test.YtflcdbefakjcbaaQ5
namespace Go.Proofs.Ytflcdbefakjcbaa
open Go.RowKit Go.Gav Go.BigFrame

theorem awake_true (w : World) :
    Calls Try.prog 12 #[] w fun e w' => e = .returned (.bool true) ∧ Only (fun _ => False) w w' := by
  go_enter Try.func12, Try.ntmps12
  go_wp2_with (fail)
  refine (q_new 2 _ (by omega) (by omega)).mono ?_
  rintro e w1 ⟨rfl, q1, o1⟩
  have O1 := Lib.hid o1
  clear o1
  go_wp2_with (fail)
  refine (q_push _ _ _ _ 1 _ q1 (by simp)).mono ?_
  rintro e w2 ⟨rfl, r2, q2, l2, o2⟩
  have O2 := Lib.hid (And.intro l2 o2)
  clear l2 o2
  go_wp2_with (fail)
  refine (q_push _ _ _ _ 2 _ q2 (by simp)).mono ?_
  rintro e w3 ⟨rfl, r3, q3, l3, o3⟩
  have O3 := Lib.hid (And.intro l3 o3)
  clear l3 o3
  go_wp2_with (fail)
  refine (q_push_full _ _ _ _ 3 _ q3 (by simp)).mono ?_
  rintro e w4 ⟨rfl, o4⟩
  have q4 := q3.only o4 id id
  have O4 := Lib.hid o4
  clear o4
  go_wp2_with (fail)
  refine (q_pop _ _ _ 1 [2] _ q4).mono ?_
  rintro e w5 ⟨rfl, q5, o5⟩
  have O5 := Lib.hid o5
  clear o5
  go_wp2_with (fail)
  refine (q_len _ _ _ _ _ q5).mono ?_
  rintro e w6 ⟨rfl, rfl⟩
  go_wp2
  go_ret
  refine ⟨rfl, ?_⟩
  obtain ⟨l2, o2⟩ := O2.out
  obtain ⟨l3, o3⟩ := O3.out
  have s1 := O1.out.size
  have s2 := o2.size
  have a2 : Only (fun _ => False) w w2 := O1.out.trans o2 (fun j hj h => by omega)
  have a3 : Only (fun _ => False) w w3 := a2.trans o3 (fun j hj h => by omega)
  have a4 : Only (fun _ => False) w w4 := a3.trans O4.out (fun j hj h => by omega)
  exact a4.trans O5.out (fun j hj h => by omega)

end Go.Proofs.Ytflcdbefakjcbaa
