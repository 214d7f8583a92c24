/- The contract of the net's New, and the document's example on nets. -/
import Derived.Test.YtflcdbefakjcbaaO3
import Derived.Test.YtflcdbefakjcbaaO2
import Derived.Maps.Keyed
namespace Go.Proofs.Ytflcdbefakjcbaa
open Go.RowKit Go.Gav Go.BigFrame

theorem net_new (n room : Nat) (w : World) (hn : 1 ≤ n ∧ n ≤ 8) (hr : 1 ≤ room ∧ room ≤ 65536) :
    Calls Try.prog 26 #[.int .i64 n, .int .i64 room] w fun e w' => ∃ S xb, e = .returned (.tuple #[.pointer (some ⟨xb, 0, none⟩), .int .i64 0]) ∧ Net w' S xb n room (fun _ => []) ∧ (∀ k, S k → w.heap.size ≤ k) ∧ Only (fun _ => False) w w' := by
  have hmm := @run_makeMap Try.prog
  go_enter Try.func26, Try.ntmps26
  go_wp2
  go_ret2
  refine ⟨fun k => k = w.heap.size ∨ k = w.heap.size + 1, w.heap.size + 1, rfl, ⟨w.heap.size, [], fun _ => 0, fun _ => none, ?_⟩, fun k hk => by omega, ((Only.refl _ _).alloc _).alloc _⟩
  exact {
    box := heap_alloc2_new _ _ _
    map := (PMap.new w).only ((Only.refl (fun _ => False) _).alloc _) id
    q := fun p hp => by simp at hp
    off := fun _ _ => rfl
    ownq := fun p hp => by simp at hp
    ownb := ⟨rfl, rfl⟩
    grid := fun p hp => by simp at hp
    hn := hn
    hroom := hr
    sb := ⟨.inr rfl, .inl rfl, fun p hp => by simp at hp⟩
    lt := fun k hk => by simp; omega }

theorem net_bad (n room : Int) (w : World) (hb : n < 1 ∨ 8 < n ∨ room < 1 ∨ 65536 < room) :
    Calls Try.prog 26 #[.int .i64 n, .int .i64 room] w fun e w' => e = .returned (.tuple #[.pointer none, .int .i64 1]) ∧ w' = w := by
  by_cases h1 : n < 1
  · clear hb
    go_enter Try.func26, Try.ntmps26
    go_wp2
    go_ret2
    exact ⟨rfl, rfl⟩
  · by_cases h2 : 8 < n
    · clear hb
      go_enter Try.func26, Try.ntmps26
      go_wp2
      go_ret2
      exact ⟨rfl, rfl⟩
    · by_cases h3 : room < 1
      · clear hb
        go_enter Try.func26, Try.ntmps26
        go_wp2
        go_ret2
        exact ⟨rfl, rfl⟩
      · have h4 : 65536 < room := by omega
        clear hb
        go_enter Try.func26, Try.ntmps26
        go_wp2
        go_ret2
        exact ⟨rfl, rfl⟩


variable {S T : Nat → Prop} {xb n room mb : Nat} {f : Cont}

theorem send_ok (a b v : Int) (w : World) (h : Net w S xb n room f) (ha : 0 ≤ a ∧ a < n) (hb : 0 ≤ b ∧ b < n) (hab : a ≠ b) (hl : (f (a, b)).length < room) :
    Calls Try.prog 27 #[.pointer (some ⟨xb, 0, none⟩), .int .i64 a, .int .i64 b, .int .i64 v] w fun e w' => e = .returned (.int .i64 0) ∧
      (∃ S', Net w' S' xb n room (upd f (a, b) (f (a, b) ++ [v])) ∧ ∀ k, S' k → S k ∨ w.heap.size ≤ k) ∧ Only S w w' := by
  have := send_good a b v w h ha hb hab
  simpa only [show ¬ room ≤ (f (a, b)).length by omega, if_false] using this

theorem send_full (a b v : Int) (w : World) (h : Net w S xb n room f) (ha : 0 ≤ a ∧ a < n) (hb : 0 ≤ b ∧ b < n) (hab : a ≠ b) (hl : room ≤ (f (a, b)).length) :
    Calls Try.prog 27 #[.pointer (some ⟨xb, 0, none⟩), .int .i64 a, .int .i64 b, .int .i64 v] w fun e w' => e = .returned (.int .i64 14) ∧
      (∃ S', Net w' S' xb n room f ∧ ∀ k, S' k → S k ∨ w.heap.size ≤ k) ∧ Only S w w' := by
  have := send_good a b v w h ha hb hab
  simpa only [hl, if_true] using this

theorem awake_net (w : World) :
    Calls Try.prog 25 #[] w fun e w' => e = .returned (.bool true) ∧ Only (fun _ => False) w w' := by
  go_enter Try.func25, Try.ntmps25
  go_wp2_with (fail)
  refine (net_new 2 9 _ (by omega) (by omega)).mono ?_
  rintro e w1 ⟨S1, xb, rfl, n1, l1, o1⟩
  have O1 := Lib.hid o1
  have L1 := Lib.hid l1
  have N1 := Lib.hid n1
  clear o1 l1 n1
  go_wp2_with (fail)
  refine (send_ok 0 1 10 _ N1.out (by omega) (by omega) (by omega) (by simp)).mono ?_
  rintro e w2 ⟨rfl, ⟨S2, n2, l2⟩, o2⟩
  have O2 := Lib.hid (O1.out.trans o2 (fun j hj h => by have := L1.out j h; omega))
  have L2 := Lib.hid (fun k hk => (l2 k hk).elim (fun h => L1.out k h) (fun h => Nat.le_trans O1.out.size h))
  have N2 := Lib.hid n2
  clear o2 l2 n2
  go_wp2_with (fail)
  refine (send_ok 1 0 20 _ N2.out (by omega) (by omega) (by omega) (by decide)).mono ?_
  rintro e w3 ⟨rfl, ⟨S3, n3, l3⟩, o3⟩
  have O3 := Lib.hid (O2.out.trans o3 (fun j hj h => by have := L2.out j h; omega))
  have L3 := Lib.hid (fun k hk => (l3 k hk).elim (fun h => L2.out k h) (fun h => Nat.le_trans O2.out.size h))
  have N3 := Lib.hid n3
  clear o3 l3 n3
  go_wp2_with (fail)
  refine (send_ok 0 1 30 _ N3.out (by omega) (by omega) (by omega) (by decide)).mono ?_
  rintro e w4 ⟨rfl, ⟨S4, n4, l4⟩, o4⟩
  have O4 := Lib.hid (O3.out.trans o4 (fun j hj h => by have := L3.out j h; omega))
  have L4 := Lib.hid (fun k hk => (l4 k hk).elim (fun h => L3.out k h) (fun h => Nat.le_trans O3.out.size h))
  have N4 := Lib.hid n4
  clear o4 l4 n4
  have hlen := net_len _ N4.out
  go_wp2_with (fail)
  refine hlen.mono ?_
  rintro e w5 ⟨rfl, o5⟩
  have htot : ((tot (upd (upd (upd (fun _ => []) (0, 1) ([] ++ [10])) (1, 0) (upd (fun _ => []) (0, 1) ([] ++ [10]) (1, 0) ++ [20])) (0, 1) (upd (upd (fun _ => []) (0, 1) ([] ++ [10])) (1, 0) (upd (fun _ => []) (0, 1) ([] ++ [10]) (1, 0) ++ [20]) (0, 1) ++ [30])) (gridE 2) : Nat) : Int) = 3 := by decide +kernel
  rw [htot]
  have O5 := Lib.hid (O4.out.trans o5 (fun j hj h => h.elim))
  have hc := net_take 0 1 _ (N4.out.only o5 (fun _ _ => id))
  have hv : headV (upd (upd (upd (fun _ => []) (0, 1) ([] ++ [10])) (1, 0) (upd (fun _ => []) (0, 1) ([] ++ [10]) (1, 0) ++ [20])) (0, 1) (upd (upd (fun _ => []) (0, 1) ([] ++ [10])) (1, 0) (upd (fun _ => []) (0, 1) ([] ++ [10]) (1, 0) ++ [20]) (0, 1) ++ [30]) (0, 1)) = .tuple #[.int .i64 10, .bool true] := by rfl
  rw [hv] at hc
  clear o5 htot hv hlen
  go_wp2_with (fail)
  refine hc.mono ?_
  rintro e w6 ⟨rfl, n6, o6⟩
  have O6 := Lib.hid (O5.out.trans o6 (fun j hj h => by have := L4.out j h; omega))
  clear o6 n6 hc
  go_wp2
  go_ret
  exact ⟨rfl, O6.out⟩

end Go.Proofs.Ytflcdbefakjcbaa
