/- The walk of the law QueueOrder: it returns true. -/
import Derived.Test.YtflcdbefakjcbaaQ6
namespace Go.Proofs.Ytflcdbefakjcbaa
open Go.RowKit Go.Gav Go.BigFrame

/-- A slice of acts (a kind and a number each), as it lies in memory. -/
def IsActs (w : World) (a : Option Addr) (len : Nat) (D X : Nat → Int) : Prop :=
  0 < len → ∃ b off, a = some ⟨b, off, none⟩ ∧ ∀ i, i < len → w.cell? ⟨b, off + i * 2, none⟩ = some (.int .u8 (D i)) ∧ w.cell? ⟨b, off + i * 2 + 1, none⟩ = some (.int .i64 (X i)) ∧ 0 ≤ D i ∧ D i ≤ 255

/-- The numbers from o on, n of them. -/
def upFrom (o n : Nat) : List Int := (List.range n).map fun i => ((o + i : Nat) : Int)
theorem upFrom_length (o n : Nat) : (upFrom o n).length = n := by simp [upFrom]
theorem upFrom_zero (o : Nat) : upFrom o 0 = [] := rfl
theorem upFrom_cons (o n : Nat) : upFrom o (n + 1) = (o : Int) :: upFrom (o + 1) n := by
  simp only [upFrom, List.range_succ_eq_map, List.map_cons, List.map_map, Nat.add_zero]
  congr 1
  apply List.map_congr_left
  intro i _
  simp only [Function.comp]
  congr 1; omega
theorem upFrom_snoc (o n : Nat) : upFrom o n ++ [((o + n : Nat) : Int)] = upFrom o (n + 1) := by
  simp [upFrom, List.range_succ]

set_option maxRecDepth 100000 in
set_option maxHeartbeats 1000000 in
theorem order_loop (room : Nat) (a : Option Addr) (len cap : Nat) (D X : Nat → Int) (w : World) (hl : IsActs w a len D X) (h1 : 1 ≤ room) (h2 : room ≤ 1048576) (hlen : len ≤ 300) :
    Calls Try.prog 3 #[.int .i64 room, .slice a len cap] w fun e w' => e = .returned (.bool true) ∧ Only (fun _ => False) w w' := by
  go_enter Try.func3, Try.ntmps3
  go_wp2_with (fail)
  refine (awake_true _).mono ?_
  rintro e w1 ⟨rfl, o1⟩
  have O1 := Lib.hid o1
  clear o1
  go_wp2_with (fail)
  refine (q_new room _ h1 h2).mono ?_
  rintro e w2 ⟨rfl, q2, o2⟩
  have O2 := Lib.hid (O1.out.trans o2 (fun _ _ h => h))
  have HB := Lib.hid (And.intro O1.out.size q2.lt.1)
  clear o2 O1
  have HL := Lib.hid hl
  clear hl
  obtain ⟨qb, hqb⟩ : ∃ qb, qb = w1.heap.size := ⟨_, rfl⟩
  rw [← hqb] at q2 HB ⊢
  clear hqb w1
  go_wp2
  go_loopw [7, 8, 9] (fun vi vo vk wr => ∃ (k i o rb : Nat), k ≤ len ∧ vi = .int .i64 i ∧ vo = .int .i64 o ∧ vk = .int .i64 k ∧ o ≤ i ∧ i ≤ k ∧ QRep wr qb rb room (upFrom o (i - o)) ∧ w.heap.size ≤ rb ∧ Only (fun _ => False) w wr)
    (fun _ _ k _ => len - (intOf k).toNat)
  case atStart => exact ⟨0, 0, 0, qb, Nat.zero_le _, rfl, rfl, rfl, Nat.le_refl _, Nat.le_refl _, q2, HB.out.1, O2.out⟩
  case round =>
    clear q2 O2
    obtain ⟨k, i, o, rb, hk, rfl, rfl, rfl, hoi, hik, hq, hrb, ho⟩ := hrel
    have HQ := Lib.hid hq
    have HO := Lib.hid ho
    clear hq ho
    have hB1 := HB.out.1
    by_cases hlt : k < len
    · obtain ⟨b, off, rfl, hc⟩ := HL.out (by omega)
      obtain ⟨d0, x0, dlo, dhi⟩ := hc k hlt
      have e0 := HO.out.cell d0 id
      clear d0 x0 hc
      by_cases hd : D k % 5 < 2
      · by_cases hfull : i - o < room
        · go_wp2_with (fail)
          refine (q_push qb rb room _ i _ HQ.out (by rw [upFrom_length]; exact hfull)).mono ?_
          rintro e w3 ⟨rfl, rb', q3, hr3, o3⟩
          have Q3 := Lib.hid q3
          have O3 := Lib.hid o3
          clear q3 o3
          go_wp2
          go_roundw
          case rel => 
            refine ⟨k + 1, i + 1, o, rb', by omega, by go_num, rfl, by go_num, by omega, by omega, ?_, ?_, ?_⟩
            · have := Q3.out
              rw [show i + 1 - o = (i - o) + 1 by omega, ← upFrom_snoc, show o + (i - o) = i by omega]
              exact this
            · have := HO.out.size; omega
            · exact HO.out.trans O3.out (fun j hj h => by omega)
          case measure => simp [intOf]; omega
        · go_wp2_with (fail)
          refine (q_push_full qb rb room _ i _ HQ.out (by rw [upFrom_length]; omega)).mono ?_
          rintro e w3 ⟨rfl, o3⟩
          have Q3 := HQ.out.only o3 id id
          have O3 := Lib.hid o3
          clear o3
          have hle := HQ.out.le.1
          rw [upFrom_length] at hle
          have hqn : (upFrom o (i - o)).length = room := by rw [upFrom_length]; omega
          go_wp2_with (fail)
          refine (q_len qb rb room _ _ Q3).mono ?_
          rintro e w4 ⟨rfl, rfl⟩
          rw [hqn]
          clear hqn
          have Q4 := Lib.hid Q3
          clear Q3
          go_wp2
          go_roundw
          case rel => 
            refine ⟨k + 1, i, o, rb, by omega, rfl, rfl, by go_num, by omega, by omega, Q4.out, hrb, HO.out.trans O3.out (fun _ _ h => h)⟩
          case measure => simp [intOf]; omega
      · by_cases hemp : o < i
        · have e1 : upFrom o (i - o) = (o : Int) :: upFrom (o + 1) (i - (o + 1)) := by rw [show i - o = (i - (o + 1)) + 1 by omega, upFrom_cons]
          have hq := HQ.out
          rw [e1] at hq
          clear HQ e1
          have HQ := Lib.hid hq
          clear hq
          go_wp2_with (fail)
          refine (q_pop qb rb room o _ _ HQ.out).mono ?_
          rintro e w3 ⟨rfl, q3, o3⟩
          have Q3 := Lib.hid q3
          have O3 := Lib.hid o3
          clear q3 o3
          go_wp2
          go_roundw
          case rel => 
            exact ⟨k + 1, i, o + 1, rb, by omega, rfl, by go_num, by go_num, by omega, by omega, Q3.out, hrb, HO.out.trans O3.out (fun j hj h => by omega)⟩
          case measure => simp [intOf]; omega
        · obtain rfl : o = i := by omega
          have hq := HQ.out
          rw [Nat.sub_self, upFrom_zero] at hq
          clear HQ
          have HQ := Lib.hid hq
          clear hq
          go_wp2_with (fail)
          refine (q_pop_none qb rb room _ HQ.out).mono ?_
          rintro e w3 ⟨rfl, rfl⟩
          go_wp2
          go_roundw
          case rel => 
            exact ⟨k + 1, o, o, rb, by omega, rfl, rfl, by go_num, by omega, by omega, by rw [Nat.sub_self, upFrom_zero]; exact HQ.out, hrb, HO.out⟩
          case measure => simp [intOf]; omega
    · have hle := HQ.out
      have e2 : (((upFrom o (i - o)).length : Nat) : Int) = (i : Int) - (o : Int) := by rw [upFrom_length]; omega
      clear hle
      go_wp2_with (fail)
      refine (q_len qb rb room _ _ HQ.out).mono ?_
      rintro e w4 ⟨rfl, rfl⟩
      rw [e2]
      clear e2
      go_wp2
      go_ret
      exact ⟨by simp, HO.out⟩

end Go.Proofs.Ytflcdbefakjcbaa
