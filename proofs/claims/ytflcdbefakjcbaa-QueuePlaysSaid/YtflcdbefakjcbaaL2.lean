/- The walk of the law QueuePlays: it returns true. -/
import Derived.Test.YtflcdbefakjcbaaOpen
import Derived.Test.YtflcdbefakjcbaaM2
import Derived.Test.YtflcdbefakjcbaaRnd
namespace Go.Proofs.Ytflcdbefakjcbaa
open Go.RowKit Go.Gav Go.BigFrame Go.Shelf
attribute [local go_sem] Oper.semAt_some

/-- Where everything lies during the plays. -/
structure Play (B nb mb : Nat) (room : Nat) (xs : List Int) (qb rb mg : Nat) (w : World) : Prop where
  q : QRep w qb rb room xs
  m : MRep w mb mg room xs
  x : w.heap[mb + 1]? = some (.cells #[.pointer (some ⟨mb, 0, none⟩)] 35 (0, 0))
  r : w.heap[nb]? = some (.cells #[.bool false] 4 (0, 0))
  far : B ≤ nb ∧ nb < mb ∧ nb < qb ∧ nb < rb ∧ qb ≠ mb ∧ qb ≠ mb + 1 ∧ rb ≠ mb ∧ rb ≠ mb + 1 ∧ mg ≠ mb + 1 ∧ qb ≠ mg ∧ rb ≠ mg

theorem Play.drewN {B nb mb room : Nat} {xs : List Int} {qb rb mg : Nat} {w : World} (h : Play B nb mb room xs qb rb mg w) (n : Nat) : Play B nb mb room xs qb rb mg (w.drewN n) :=
  ⟨h.q.only ((Only.refl (fun _ => False) w).drewN n) id id, h.m.only ((Only.refl (fun _ => False) w).drewN n) id id, h.x, h.r, h.far⟩

set_option maxRecDepth 100000 in
set_option maxHeartbeats 4000000 in
theorem plays_walk (r : Int) (hr : 0 ≤ r) (hr2 : r ≤ 255) (a : Option Addr) (len cap : Nat) (D X : Nat → Int) (w : World) (hl : IsActs w a len D X) (hlen : len ≤ 300) :
    Calls Try.prog 4 #[.int .u8 r, .slice a len cap] w fun e w' => e = .returned (.bool true) ∧ Only (fun _ => False) w w' := by
  have HL := Lib.hid hl
  clear hl
  obtain ⟨room, hroom⟩ : ∃ room : Nat, (room : Int) = 1 + r % 9 := ⟨(1 + r % 9).toNat, by omega⟩
  have hro : 1 ≤ room ∧ room ≤ 9 := by omega
  refine callsIn_wide.1 (callsIn_of_wp_marks (F := Fence.wide) (n := 0) Try.func4 rfl trivial ?_)
  simp only [Try.ntmps4, List.size_toArray, List.length_cons, List.length_nil, Nat.reduceAdd, Nat.reduceSub, Array.replicate_succ, Array.replicate_zero, List.push_toArray, List.append_toArray, List.nil_append, List.cons_append]
  refine wpIn_wide.2 (wp_calm ?_)
  have HR := Lib.hid hroom
  clear hroom
  go_wp2_with (fail)
  refine (awake_true _).mono ?_
  rintro e w1 ⟨rfl, o1⟩
  have k1 : w1.heap[w.heap.size]? = some (.cells #[.bool false] 4 (0, 0)) := o1.keep (heap_alloc_new w _) id
  have hs1 : w.heap.size + 1 ≤ w1.heap.size := by have := o1.size; simpa using this
  have O1 := Lib.hid (((Only.refl (fun _ => False) w).alloc (.cells #[.bool false] 4)).trans o1 (fun _ _ h => h))
  have K1 := Lib.hid k1
  clear o1 k1
  go_wp2_with (fail)
  rw [← HR.out]
  refine (q_new room _ hro.1 (by omega)).mono ?_
  rintro e w2 ⟨rfl, q2, o2⟩
  have hlt2 := q2.lt.1
  have Q2 := Lib.hid q2
  have K2 := Lib.hid (o2.keep K1.out id)
  have O2 := Lib.hid (O1.out.trans o2 (fun _ _ h => h))
  have hs2 := o2.size
  clear o2 q2 O1 K1
  go_wp2_with (fail)
  have PL : Hid (Play w.heap.size w.heap.size w2.heap.size room [] w1.heap.size w1.heap.size w.heap.size ((w2.alloc (Obj.cells #[Value.int IntKind.i64 room, Value.slice none 0 0] 38)).alloc (Obj.cells #[Value.pointer (some ⟨w2.heap.size, 0, none⟩)] 35))) := by
    have o : Only (fun _ => False) w2 ((w2.alloc (Obj.cells #[Value.int IntKind.i64 room, Value.slice none 0 0] 38)).alloc (Obj.cells #[Value.pointer (some ⟨w2.heap.size, 0, none⟩)] 35)) := ((Only.refl _ _).alloc _).alloc _
    refine ⟨Q2.out.only o id id, ?_, ?_, o.keep K2.out id, by omega⟩
    · refine ⟨none, 0, hp_alloc (heap_alloc_new w2 _) _, by simp, fun _ => rfl, fun x h => (by cases h), by omega, by simp; omega, fun off h => (by cases h)⟩
    · have := heap_alloc_new (w2.alloc (Obj.cells #[Value.int IntKind.i64 room, Value.slice none 0 0] 38)) (Obj.cells #[Value.pointer (some ⟨w2.heap.size, 0, none⟩)] 35)
      rw [World.size_alloc] at this
      exact this
  have O3 := Lib.hid ((O2.out.alloc (Obj.cells #[Value.int IntKind.i64 room, Value.slice none 0 0] 38)).alloc (Obj.cells #[Value.pointer (some ⟨w2.heap.size, 0, none⟩)] 35))
  have hs3 : w2.heap.size + 2 ≤ ((w2.alloc (Obj.cells #[Value.int IntKind.i64 room, Value.slice none 0 0] 38)).alloc (Obj.cells #[Value.pointer (some ⟨w2.heap.size, 0, none⟩)] 35)).heap.size := by simp
  clear K2 O2 Q2
  generalize (w2.alloc (Obj.cells #[Value.int IntKind.i64 room, Value.slice none 0 0] 38)).alloc (Obj.cells #[Value.pointer (some ⟨w2.heap.size, 0, none⟩)] 35) = w3 at *
  obtain ⟨nb, hnb⟩ : ∃ nb, nb = w.heap.size := ⟨_, rfl⟩
  obtain ⟨mb, hmb⟩ : ∃ mb, mb = w2.heap.size := ⟨_, rfl⟩
  obtain ⟨q0, hq0⟩ : ∃ q0, q0 = w1.heap.size := ⟨_, rfl⟩
  have HB : Hid (w.heap.size ≤ nb) := Nat.le_of_eq hnb.symm
  rw [← hnb, ← hmb, ← hq0] at PL
  rw [← hmb, ← hq0]
  rw [show (Value.pointer (some { block := w.heap.size, off := 0 })) = Value.pointer (some { block := nb, off := 0 }) by rw [hnb]]
  clear hnb hq0 hmb hs1 hs2 hs3 hlt2 w1 w2
  go_loopw [6, 9] (fun vq vk wr => ∃ (k qb rb mg : Nat) (xs : List Int), k ≤ len ∧ vq = .pointer (some ⟨qb, 0, none⟩) ∧ vk = .int .i64 k ∧ Play nb nb mb room xs qb rb mg wr ∧ Only (fun _ => False) w wr)
    (fun _ k _ => len - (intOf k).toNat)
  case atStart => exact ⟨0, q0, q0, nb, [], Nat.zero_le _, rfl, rfl, PL.out, O3.out⟩
  case round =>
    clear PL O3
    obtain ⟨k, qb, rb, mg, xs, hk, rfl, rfl, hp, ho⟩ := hrel
    have HP := Lib.hid hp
    have HO := Lib.hid ho
    clear hp ho
    by_cases hlt : k < len
    · obtain ⟨b, off, rfl, hc⟩ := HL.out (by omega)
      obtain ⟨d0, x0, dlo, dhi⟩ := hc k hlt
      have e0 := HO.out.cell d0 id
      have e1 := HO.out.cell x0 id
      clear d0 x0 hc
      have h5 : D k % 5 = 0 ∨ D k % 5 = 1 ∨ D k % 5 = 2 ∨ D k % 5 = 3 ∨ D k % 5 = 4 := by omega
      rcases h5 with h5 | h5 | h5 | h5 | h5
      · (
          have x0 := cell_of_one HP.out.x
          go_wp2_with (fail)
          refine wp_region_either [0, 1, 4] 2 3 [5, 6, 7] (by kernel_rfl) (by kernel_rfl) (fun _ _ _ _ h => h) ?_ ?_
          all_goals simp only [pick, consO, List.getElem?_toArray, List.getElem?_cons_succ, List.getElem?_cons_zero, movesOf, moveOf]
          all_goals (conv => arg 5; simp [Act.put, Act.eval])
          all_goals ((
                       go_wp2_with (fail)
                       refine (q_push_any qb rb room xs (X k) _ (HP.out.drewN _).q).mono ?_
                       rintro e w4 ⟨rfl, rb4, q4, hr4, o4⟩
                       have hfar := HP.out.far
                       have hmlt := HP.out.m.lt
                       have hqlt := HP.out.q.lt
                       have hxlt := lt_of_block HP.out.x
                       have hs4 := o4.size
                       have Q4 := Lib.hid (And.intro q4 (And.intro hr4 o4))
                       have M4 := Lib.hid ((HP.out.drewN _).m.only o4 (fun h => by omega) (fun h => by omega))
                       have x4 := cell_of_one (o4.keep (HP.out.drewN 1).x (fun h => by omega))
                       clear q4 hr4 o4
                       go_wp2_with (fail)
                       refine (m_push_any mb mg room xs (X k) _ M4.out (by omega)).mono ?_
                       rintro e w5 ⟨rfl, mg5, m5, hm5, o5⟩
                       have hs5 := o5.size
                       obtain ⟨xs5, hxs5⟩ : ∃ ys, ys = pushL room xs (X k) := ⟨_, rfl⟩
                       have P5 : Hid (Play nb nb mb room xs5 qb rb4 mg5 w5) := by
                         obtain ⟨g1, g2, g3⟩ := Q4.out
                         have hzz : (wr.drewN 1).heap.size = wr.heap.size := rfl
                         rw [hxs5]
                         have hg := g1.lt
                         refine ⟨g1.only o5 (fun h => by omega) (fun h => by omega), m5, o5.keep (g3.keep (HP.out.drewN 1).x (fun h => by omega)) (fun h => by omega), o5.keep (g3.keep (HP.out.drewN 1).r (fun h => by omega)) (fun h => by omega), by omega⟩
                       have O5 : Hid (Only (fun _ => False) w w5) := (((HO.out.drewN 1).trans Q4.out.2.2 (fun j hj h => by have := HB.out; have := HP.out.far; omega)).trans o5 (fun j hj h => by have := HB.out; have := HP.out.far; omega))
                       clear hfar hmlt hqlt hxlt hs4 hs5 Q4 M4 m5 hm5 o5 hxs5 HP HO x0 x4
                       go_wp2)))
        all_goals (
                    obtain ⟨ao, cp, m1, m2⟩ := P5.out.m.read
                    have x1 := cell_of_one P5.out.x
                    clear m2
                    go_wp2_with (fail)
                    go_quiet ((go_at_call 15; refine Calls.quiet_of_same (q_len _ _ room xs5 _ (P5.out.drewN _).q)))
                    go_wp2
                    go_roundw
                    case rel => exact ⟨k + 1, _, _, _, xs5, by omega, rfl, by go_num, P5.out.drewN _, O5.out.drewN _⟩
                    case measure => simp [intOf]; omega)
      · (
          have x0 := cell_of_one HP.out.x
          go_wp2_with (fail)
          refine wp_region_either [0, 1, 4] 2 3 [5, 6, 7] (by kernel_rfl) (by kernel_rfl) (fun _ _ _ _ h => h) ?_ ?_
          all_goals simp only [pick, consO, List.getElem?_toArray, List.getElem?_cons_succ, List.getElem?_cons_zero, movesOf, moveOf]
          all_goals (conv => arg 5; simp [Act.put, Act.eval])
          all_goals ((
                       go_wp2_with (fail)
                       refine (q_push_any qb rb room xs (X k) _ (HP.out.drewN _).q).mono ?_
                       rintro e w4 ⟨rfl, rb4, q4, hr4, o4⟩
                       have hfar := HP.out.far
                       have hmlt := HP.out.m.lt
                       have hqlt := HP.out.q.lt
                       have hxlt := lt_of_block HP.out.x
                       have hs4 := o4.size
                       have Q4 := Lib.hid (And.intro q4 (And.intro hr4 o4))
                       have M4 := Lib.hid ((HP.out.drewN _).m.only o4 (fun h => by omega) (fun h => by omega))
                       have x4 := cell_of_one (o4.keep (HP.out.drewN 1).x (fun h => by omega))
                       clear q4 hr4 o4
                       go_wp2_with (fail)
                       refine (m_push_any mb mg room xs (X k) _ M4.out (by omega)).mono ?_
                       rintro e w5 ⟨rfl, mg5, m5, hm5, o5⟩
                       have hs5 := o5.size
                       obtain ⟨xs5, hxs5⟩ : ∃ ys, ys = pushL room xs (X k) := ⟨_, rfl⟩
                       have P5 : Hid (Play nb nb mb room xs5 qb rb4 mg5 w5) := by
                         obtain ⟨g1, g2, g3⟩ := Q4.out
                         have hzz : (wr.drewN 1).heap.size = wr.heap.size := rfl
                         rw [hxs5]
                         have hg := g1.lt
                         refine ⟨g1.only o5 (fun h => by omega) (fun h => by omega), m5, o5.keep (g3.keep (HP.out.drewN 1).x (fun h => by omega)) (fun h => by omega), o5.keep (g3.keep (HP.out.drewN 1).r (fun h => by omega)) (fun h => by omega), by omega⟩
                       have O5 : Hid (Only (fun _ => False) w w5) := (((HO.out.drewN 1).trans Q4.out.2.2 (fun j hj h => by have := HB.out; have := HP.out.far; omega)).trans o5 (fun j hj h => by have := HB.out; have := HP.out.far; omega))
                       clear hfar hmlt hqlt hxlt hs4 hs5 Q4 M4 m5 hm5 o5 hxs5 HP HO x0 x4
                       go_wp2)))
        all_goals (
                    obtain ⟨ao, cp, m1, m2⟩ := P5.out.m.read
                    have x1 := cell_of_one P5.out.x
                    clear m2
                    go_wp2_with (fail)
                    go_quiet ((go_at_call 15; refine Calls.quiet_of_same (q_len _ _ room xs5 _ (P5.out.drewN _).q)))
                    go_wp2
                    go_roundw
                    case rel => exact ⟨k + 1, _, _, _, xs5, by omega, rfl, by go_num, P5.out.drewN _, O5.out.drewN _⟩
                    case measure => simp [intOf]; omega)
      · have x0 := cell_of_one HP.out.x
        go_wp2_with (fail)
        refine (q_pop_any qb rb room xs _ HP.out.q).mono ?_
        rintro e w4 ⟨rfl, q4, o4⟩
        have hfar := HP.out.far
        have hmlt := HP.out.m.lt
        have hqlt := HP.out.q.lt
        have hxlt := lt_of_block HP.out.x
        have hs4 := o4.size
        have Q4 := Lib.hid (And.intro q4 o4)
        have M4 := Lib.hid (HP.out.m.only o4 (fun h => by omega) (fun h => by omega))
        have x4 := cell_of_one (o4.keep HP.out.x (fun h => by omega))
        clear q4 o4 x0
        go_wp2_with (fail)
        refine (m_pop_any mb mg room xs _ M4.out).mono ?_
        rintro e w5 ⟨rfl, m5, o5⟩
        obtain ⟨xs5, hxs5⟩ : ∃ ys, ys = xs.tail := ⟨_, rfl⟩
        have P5 : Hid (Play nb nb mb room xs5 qb rb mg w5) := by
          obtain ⟨g1, g3⟩ := Q4.out
          rw [hxs5]
          have hg := g1.lt
          exact ⟨g1.only o5 (fun h => by omega) (fun h => by omega), m5, o5.keep (g3.keep HP.out.x (fun h => by omega)) (fun h => by omega), o5.keep (g3.keep HP.out.r (fun h => by omega)) (fun h => by omega), by omega⟩
        have O5 : Hid (Only (fun _ => False) w w5) := ((HO.out.trans Q4.out.2 (fun j hj h => by have := HB.out; have := HP.out.far; omega)).trans o5 (fun j hj h => by have := HB.out; have := HP.out.far; omega))
        clear hfar hmlt hqlt hxlt hs4 Q4 M4 m5 o5 hxs5 HP HO x4
        go_wp2_with (fail)
        (
          obtain ⟨ao, cp, m1, m2⟩ := P5.out.m.read
          have x1 := cell_of_one P5.out.x
          clear m2
          go_wp2_with (fail)
          go_quiet ((go_at_call 15; refine Calls.quiet_of_same (q_len _ _ room xs5 _ (P5.out.drewN _).q)))
          go_wp2
          go_roundw
          case rel => exact ⟨k + 1, _, _, _, xs5, by omega, rfl, by go_num, P5.out.drewN _, O5.out.drewN _⟩
          case measure => simp [intOf]; omega)
      · have x0 := cell_of_one HP.out.x
        cases xs with
        | nil =>
          have m1 : wr.cell? ⟨mb, 1, none⟩ = some (.slice none 0 0) ∨ True := .inr trivial
          clear m1
          obtain ⟨ao, cp, m1, -⟩ := HP.out.m.read
          go_wp2_with (fail)
          refine (q_peek_none qb rb room _ HP.out.q).mono ?_
          rintro e w5 ⟨rfl, rfl⟩
          go_wp2_with (fail)
          have P5 := HP
          have O5 := HO
          obtain ⟨xs5, hxs5⟩ : ∃ ys : List Int, ys = [] := ⟨_, rfl⟩
          rw [← hxs5] at P5
          clear HP HO m1 x0 hxs5
          (
            obtain ⟨ao, cp, m1, m2⟩ := P5.out.m.read
            have x1 := cell_of_one P5.out.x
            clear m2
            go_wp2_with (fail)
            go_quiet ((go_at_call 15; refine Calls.quiet_of_same (q_len _ _ room xs5 _ (P5.out.drewN _).q)))
            go_wp2
            go_roundw
            case rel => exact ⟨k + 1, _, _, _, xs5, by omega, rfl, by go_num, P5.out.drewN _, O5.out.drewN _⟩
            case measure => simp [intOf]; omega)
        | cons y ys =>
          go_wp2_with (fail)
          refine (q_peek qb rb room y ys _ HP.out.q).mono ?_
          rintro e w5 ⟨rfl, o5⟩
          have P5 : Hid (Play nb nb mb room (y :: ys) qb rb mg w5) := ⟨HP.out.q.only o5 id id, HP.out.m.only o5 id id, o5.keep HP.out.x id, o5.keep HP.out.r id, HP.out.far⟩
          have O5 := Lib.hid (HO.out.trans o5 (fun _ _ h => h))
          clear HP HO x0 o5
          obtain ⟨ao, cp, m1, m2⟩ := P5.out.m.read
          have x0 := cell_of_one P5.out.x
          obtain ⟨off', rfl, m3⟩ := m2 (by simp)
          have m4 : w5.cell? ⟨mg, off', none⟩ = some (.int .i64 y) := by simpa using m3 0 (by simp)
          clear m2 m3
          obtain ⟨n5, hn5⟩ : ∃ n, n = (y :: ys).length := ⟨_, rfl⟩
          rw [← hn5] at m1
          have hn6 : 0 < n5 := by rw [hn5]; simp
          clear hn5
          go_wp2_with (fail)
          obtain ⟨xs5, hxs5⟩ : ∃ zs : List Int, zs = y :: ys := ⟨_, rfl⟩
          rw [← hxs5] at P5
          clear hxs5 m1 m4 x0 hn6
          (
            obtain ⟨ao, cp, m1, m2⟩ := P5.out.m.read
            have x1 := cell_of_one P5.out.x
            clear m2
            go_wp2_with (fail)
            go_quiet ((go_at_call 15; refine Calls.quiet_of_same (q_len _ _ room xs5 _ (P5.out.drewN _).q)))
            go_wp2
            go_roundw
            case rel => exact ⟨k + 1, _, _, _, xs5, by omega, rfl, by go_num, P5.out.drewN _, O5.out.drewN _⟩
            case measure => simp [intOf]; omega)
      · go_wp2_with (fail)
        refine (copy_at qb rb room xs _ HP.out.q).mono ?_
        rintro e w4 ⟨cb, rc, rfl, q4, hcb, hrc, o4⟩
        have Q4 := Lib.hid q4
        have P4 : Hid (Play nb nb mb room xs qb rb mg w4) := ⟨HP.out.q.only o4 id id, HP.out.m.only o4 id id, o4.keep HP.out.x id, o4.keep HP.out.r id, HP.out.far⟩
        have O4 := Lib.hid (HO.out.trans o4 (fun _ _ h => h))
        have hmlt := HP.out.m.lt
        have hqlt := HP.out.q.lt
        have hxlt := lt_of_block HP.out.x
        have hrlt := lt_of_block HP.out.r
        have H4 := Lib.hid (And.intro hmlt (And.intro hqlt (And.intro hxlt (And.intro hrlt (And.intro hcb (And.intro hrc q4.lt))))))
        clear q4 hcb hrc o4 HP HO hmlt hqlt hxlt hrlt
        go_wp2_with (fail)
        refine (q_push_any qb rb room xs (X k) _ P4.out.q).mono ?_
        rintro e w6 ⟨rfl, rb6, q6, hr6, o6⟩
        have Q6 := Lib.hid (And.intro q6 (And.intro hr6 o6))
        clear q6 hr6 o6
        go_wp2_with (fail)
        refine (q_pop_any qb rb6 room _ _ Q6.out.1).mono ?_
        rintro e w5 ⟨rfl, -, o5⟩
        obtain ⟨xs5, hxs5⟩ : ∃ zs : List Int, zs = xs := ⟨_, rfl⟩
        have P5 : Hid (Play nb nb mb room xs5 cb rc mg w5) := by
          obtain ⟨g1, g2, g3⟩ := Q6.out
          obtain ⟨hmlt, hqlt, hxlt, hrlt, hcb, hrc, hlt4⟩ := H4.out
          have hfar := P4.out.far
          have hs6 := g3.size
          rw [hxs5]
          exact ⟨(Q4.out.only g3 (fun h => by omega) (fun h => by omega)).only o5 (fun h => by omega) (fun h => by omega), (P4.out.m.only g3 (fun h => by omega) (fun h => by omega)).only o5 (fun h => by omega) (fun h => by omega),
            o5.keep (g3.keep P4.out.x (fun h => by omega)) (fun h => by omega), o5.keep (g3.keep P4.out.r (fun h => by omega)) (fun h => by omega), by omega⟩
        have O5 : Hid (Only (fun _ => False) w w5) := (O4.out.trans Q6.out.2.2 (fun j hj h => by have := HB.out; have := P4.out.far; omega)).trans o5 (fun j hj h => by have := HB.out; have := P4.out.far; have := Q6.out.2.1; have := O4.out.size; omega)
        clear hxs5 Q4 P4 O4 H4 Q6 o5
        go_wp2_with (fail)
        (
          obtain ⟨ao, cp, m1, m2⟩ := P5.out.m.read
          have x1 := cell_of_one P5.out.x
          clear m2
          go_wp2_with (fail)
          go_quiet ((go_at_call 15; refine Calls.quiet_of_same (q_len _ _ room xs5 _ (P5.out.drewN _).q)))
          go_wp2
          go_roundw
          case rel => exact ⟨k + 1, _, _, _, xs5, by omega, rfl, by go_num, P5.out.drewN _, O5.out.drewN _⟩
          case measure => simp [intOf]; omega)
    · have x0 := cell_of_one HP.out.x
      go_wp2_with (go_at_call 21; refine (all_call _ _).mono ?_; rintro e w' ⟨rfl, rfl⟩)
      obtain ⟨w2, hw2⟩ : ∃ w2, w2 = (wr.alloc (Obj.cells #[Value.int IntKind.i64 0] 3)).alloc (Obj.cells #[Value.pointer (some ⟨qb, 0, none⟩)] 24) := ⟨_, rfl⟩
      have o2 : Only (fun _ => False) wr w2 := by rw [hw2]; exact ((Only.refl _ _).alloc _).alloc _
      have k1 : w2.heap[wr.heap.size]? = some (.cells #[.int .i64 0] 3 (0, 0)) := by rw [hw2]; exact hp_alloc (heap_alloc_new wr _) _
      have k2 : w2.cell? ⟨wr.heap.size + 1, 0, none⟩ = some (.pointer (some ⟨qb, 0, none⟩)) := by
        rw [hw2]
        have := heap_alloc_new (wr.alloc (Obj.cells #[Value.int IntKind.i64 0] 3)) (Obj.cells #[Value.pointer (some ⟨qb, 0, none⟩)] 24)
        rw [World.size_alloc] at this
        exact cell_of_one this
      have hs2 : w2.heap.size = wr.heap.size + 2 := by rw [hw2]; simp
      rw [← hw2]
      clear hw2 x0
      have Q2 := Lib.hid (HP.out.q.only o2 id id)
      have M2 := Lib.hid (HP.out.m.only o2 id id)
      have X2 := Lib.hid (o2.keep HP.out.x id)
      have R2 := Lib.hid (o2.keep HP.out.r id)
      have O2 := Lib.hid (HO.out.trans o2 (fun _ _ h => h))
      have K1 := Lib.hid k1
      have HS2 := Lib.hid hs2
      have L2 := Lib.hid (And.intro HP.out.far (And.intro HP.out.m.lt (And.intro HP.out.q.lt (And.intro (lt_of_block HP.out.x) (lt_of_block HP.out.r)))))
      obtain ⟨B, hB⟩ : ∃ B, B = wr.heap.size := ⟨_, rfl⟩
      rw [← hB] at K1 HS2 L2 k2
      rw [← hB]
      have HOB : Hid (w.heap.size ≤ B) := by rw [hB]; exact HO.out.size
      clear hB k1 hs2 o2 HP HO
      refine wp_range (gf := 38) (lb := #[.pointer (some ⟨B + 1, 0, none⟩)]) rfl (enters_of Try.func38 (by kernel_rfl) rfl) (all_iter_any (B + 1) qb rb room xs w2 k2 Q2.out) (fun x => rfl) ?_
      intro W0 hW0 hs0
      clear k2
      refine ⟨fun i W => i ≤ xs.length ∧ W.heap[B]? = some (.cells #[.int .i64 i] 3 (0, 0)) ∧ MRep W mb mg room xs ∧ W.heap[mb + 1]? = some (.cells #[.pointer (some ⟨mb, 0, none⟩)] 35 (0, 0)) ∧ W.heap[nb]? = some (.cells #[.bool false] 4 (0, 0)) ∧ W0.heap.size ≤ W.heap.size ∧ Only (fun _ => False) w W,
        fun _ _ => False, ?_, ?_, fun _ _ _ h _ => h, ?_, ?_, fun _ _ _ _ _ h _ => h.elim⟩
      · exact ⟨Nat.zero_le _, hW0.keep K1.out id, M2.out.only hW0 id id, hW0.keep X2.out id, hW0.keep R2.out id, Nat.le_refl _, O2.out.trans hW0 (fun _ _ h => h)⟩
      · rintro i W1 W2 ⟨h1, h2, h3, h4, h5, h7, h6⟩ ho
        have hz := HS2.out
        have hl := L2.out
        have hob := HOB.out
        exact ⟨h1, ho.keep h2 (fun h => by have := h.1; omega), h3.only ho (fun h => by have := h.1; omega) (fun h => by have := h.1; omega), ho.keep h4 (fun h => by have := h.1; omega), ho.keep h5 (fun h => by have := h.1; omega), by have := ho.size; omega, h6.trans ho (fun j hj h => by have := h.1; omega)⟩
      · rintro l i hil W ⟨h1, h2, h3, h4, h5, h7, h6⟩
        rw [places_get]
        rw [places_length] at hil
        simp only [encP]
        obtain ⟨xi, hxi⟩ : ∃ xi, xi = xs.getD i 0 := ⟨_, rfl⟩
        rw [← hxi]
        have HXI := Lib.hid hxi
        have H2 := Lib.hid h2
        have H3 := Lib.hid h3
        have H4 := Lib.hid h4
        have H5 := Lib.hid h5
        have H6 := Lib.hid h6
        clear hxi h2 h3 h4 h5 h6
        gi_wp2
        refine ⟨Kept.refl _ _ _, fun W2 ho => ?_⟩
        have hz := HS2.out
        have hl := L2.out
        have hob := HOB.out
        have hsz := ho.size
        have h2 := ho.keep H2.out (fun h => by have := h.1; omega)
        have h3 := H3.out.only ho (fun h => by have := h.1; omega) (fun h => by have := h.1; omega)
        have h4 := ho.keep H4.out (fun h => by have := h.1; omega)
        have h5 := ho.keep H5.out (fun h => by have := h.1; omega)
        have h6 : Only (fun _ => False) w W2 := H6.out.trans ho (fun j hj h => by have := h.1; omega)
        have c2 := cell_of_one h2
        have f2 := free_of_one h2
        have c4 := cell_of_one h4
        obtain ⟨ao, cp, m1, m2⟩ := h3.read
        obtain ⟨off', rfl, m3⟩ := m2 (by omega)
        have m4 := m3 i hil
        rw [← HXI.out] at m4
        have H2' := Lib.hid h2
        have H3' := Lib.hid h3
        have H4' := Lib.hid h4
        have H5' := Lib.hid h5
        have H6' := Lib.hid h6
        obtain ⟨n, hn⟩ : ∃ n, n = xs.length := ⟨_, rfl⟩
        rw [← hn] at m1
        have hin : i < n := by omega
        have hi9 : i < 9 := by have := Q2.out.le; omega
        have hge : decide (n ≤ i) = false := by simp; omega
        have HLN := Lib.hid hn
        have HIL := Lib.hid hil
        have H1 := Lib.hid h1
        clear h1 h2 h3 h4 h5 h6 m2 m3 H2 H3 H4 H5 H6 hn hil ho hz hl hob hs0
        gi_wp2
        refine wpIn_round_mixed [0, 1, 2, 3, 4, 5, 6, 7, 8, 9, 10, 11, 12, 13, 14, 15, 16, 17, 18, 19, 20, 21] 22 [] (by kernel_rfl) (by kernel_rfl) ?_
        simp only [pick, consO, List.getElem?_toArray, List.getElem?_cons_succ, List.getElem?_cons_zero]
        repeat (go_big_quiet_step (fail))
        refine wpQuiet_nil ?_
        rintro _ ⟨nq, rfl⟩
        gi_wp2
        have hz := HS2.out
        have hl := L2.out
        have hob := HOB.out
        have ho4 : Only (fun k => k = B) W2 ((W2.drewN nq).setCell ⟨B, 0, none⟩ (.int .i64 (↑i + 1))) := ((Only.refl (fun k => k = B) W2).drewN nq).setCell (p := ⟨B, 0, none⟩) (.inl rfl) _
        refine ⟨ho4.kept (by omega) (fun k hk => by omega), by have := HIL.out; omega, ?_, H3'.out.only ho4 (fun h => by omega) (fun h => by omega), ho4.keep H4'.out (fun h => by omega), ho4.keep H5'.out (fun h => by omega), by have := ho4.size; omega, H6'.out.trans ho4 (fun j hj h => by omega)⟩
        have := one_setCell (w := W2.drewN nq) H2'.out (u := .int .i64 (↑i + 1))
        simpa using this
      · rintro Dd W hD1 hD2 ⟨h1, h2, h3, h4, h5, h7, h6⟩ hK
        rw [places_length] at h2
        have c2 := cell_of_one h2
        have c4 := cell_of_one h4
        have f5 := free_of_one h5
        have c5 := cell_of_one h5
        obtain ⟨ao, cp, m1, -⟩ := h3.read
        have H5 := Lib.hid h5
        have H6 := Lib.hid h6
        have HK := Lib.hid hK
        have hl := L2.out
        have hob := HOB.out
        have hz := HS2.out
        have hb0 := HB.out
        obtain ⟨n, hn⟩ : ∃ n, n = xs.length := ⟨_, rfl⟩
        rw [← hn] at m1 c2
        clear h1 h2 h3 h4 h5 h6 hK hn
        go_wp2
        refine wp_region_mixed [] [0, 1, 2, 3, 4, 5, 6] 7 [] (by kernel_rfl) (by kernel_rfl) (fun _ _ _ _ h => h) ?_
        simp only [pick, consO, List.getElem?_toArray, List.getElem?_cons_succ, List.getElem?_cons_zero, movesOf]
        repeat (go_big_quiet_step (fail))
        refine wpQuiet_nil ?_
        rintro _ ⟨nq, rfl⟩
        go_wp2
        have ho : Only (fun k => k = nb) W ((W.drewN nq).setCell ⟨nb, 0, none⟩ (.bool true)) := ((Only.refl (fun k => k = nb) W).drewN nq).setCell (p := ⟨nb, 0, none⟩) (.inl rfl) _
        have hp : Only (fun k => k = Dd) ((W.drewN nq).setCell ⟨nb, 0, none⟩ (.bool true)) (((W.drewN nq).setCell ⟨nb, 0, none⟩ (.bool true)).putObj Dd (.deferred none)) := only_putObj (Only.refl _ _) _ _ (.inl rfl)
        have e5 := one_setCell (w := W.drewN nq) H5.out (u := .bool true)
        refine ⟨by simp, .inl ⟨_, _, rfl, run_takeDeferred (ho.keep HK.out (fun h => by omega)), ?_⟩⟩
        exact ⟨_, results_cell_one rfl _ _ _ _ _ rfl (cell_of_one (hp.keep e5 (fun h => by omega))) Try.underlying4 rfl, rfl, (H6.out.trans ho (fun j hj h => by omega)).trans hp (fun j hj h => by omega)⟩

end Go.Proofs.Ytflcdbefakjcbaa
