/- The walk of the law QueueCopies: it returns true. -/
import Derived.Test.YtflcdbefakjcbaaOpen
namespace Go.Proofs.Ytflcdbefakjcbaa
open Go.RowKit Go.Gav Go.BigFrame Go.Shelf

/-- A queue's items after the first k acts. -/
def runL (room : Nat) (xs : List Int) (D X : Nat → Int) : Nat → List Int
  | 0 => xs
  | k + 1 => stepL room (runL room xs D X k) (D k) (X k)

set_option maxRecDepth 100000 in
set_option maxHeartbeats 4000000 in
theorem copies_walk (r : Int) (hr : 0 ≤ r) (hr2 : r ≤ 255) (a a' : Option Addr) (len cap len' cap' : Nat) (D X D' X' : Nat → Int) (w : World) (hl : IsActs w a len D X) (hl' : IsActs w a' len' D' X') (hlen : len ≤ 300) (hlen' : len' ≤ 300) :
    Calls Try.prog 6 #[.int .u8 r, .slice a len cap, .slice a' len' cap'] w fun e w' => e = .returned (.bool true) ∧ Only (fun _ => False) w w' := by
  have HL := Lib.hid hl
  have HL' := Lib.hid hl'
  clear hl hl'
  obtain ⟨room, hroom⟩ : ∃ room : Nat, (room : Int) = 1 + r % 9 := ⟨(1 + r % 9).toNat, by omega⟩
  have hro : 1 ≤ room ∧ room ≤ 9 := by omega
  go_enter Try.func6, Try.ntmps6
  go_wp2_with (fail)
  refine (awake_true _).mono ?_
  rintro e w1 ⟨rfl, o1⟩
  have O1 := Lib.hid o1
  clear o1
  have HR := Lib.hid hroom
  clear hroom
  go_wp2_with (fail)
  rw [← HR.out]
  refine (q_new room _ hro.1 (by omega)).mono ?_
  rintro e w2 ⟨rfl, q2, o2⟩
  have O2 := Lib.hid (O1.out.trans o2 (fun _ _ h => h))
  have HB := Lib.hid (And.intro O1.out.size q2.lt.1)
  clear o2 O1
  obtain ⟨qb, hqb⟩ : ∃ qb, qb = w1.heap.size := ⟨_, rfl⟩
  rw [← hqb] at q2 HB ⊢
  clear hqb w1
  go_wp2
  go_loopw [9] (fun vk wr => ∃ (k rb : Nat), k ≤ len ∧ vk = .int .i64 k ∧ QRep wr qb rb room (runL room [] D X k) ∧ w.heap.size ≤ rb ∧ Only (fun _ => False) w wr)
    (fun k _ => len - (intOf k).toNat)
  case atStart => exact ⟨0, qb, Nat.zero_le _, rfl, q2, HB.out.1, O2.out⟩
  case round =>
    clear q2 O2
    obtain ⟨k, rb, hk, rfl, hq, hrb, ho⟩ := hrel
    have HQ := Lib.hid hq
    have HO := Lib.hid ho
    clear hq ho
    have hB1 := HB.out.1
    by_cases hlt : k < len
    · obtain ⟨b, off, rfl, hc⟩ := HL.out (by omega)
      obtain ⟨d0, x0, dlo, dhi⟩ := hc k hlt
      have e0 := HO.out.cell d0 id
      have e1 := HO.out.cell x0 id
      clear d0 x0 hc
      go_wp2_with (fail)
      refine (step_at qb rb room _ (D k) (X k) _ HQ.out dlo dhi).mono ?_
      rintro e w3 ⟨rfl, rb', q3, hr3, o3⟩
      have Q3 := Lib.hid q3
      have O3 := Lib.hid o3
      clear q3 o3
      go_wp2
      go_roundw
      case rel => exact ⟨k + 1, rb', by omega, by go_num, Q3.out, by have := HO.out.size; omega, HO.out.trans O3.out (fun j hj h => by omega)⟩
      case measure => simp [intOf]; omega
    · obtain ⟨xs, hxs⟩ : ∃ xs, xs = runL room [] D X k := ⟨_, rfl⟩
      rw [← hxs] at HQ
      clear hxs
      go_wp2_with (fail)
      refine (copy_at qb rb room xs _ HQ.out).mono ?_
      rintro e w3 ⟨cb, rc, rfl, qc3, hcb, hrc, o3⟩
      have QC3 := Lib.hid qc3
      have Q3 := Lib.hid (HQ.out.only o3 id id)
      have O3 := Lib.hid (HO.out.trans o3 (fun _ _ h => h))
      have L3 := Lib.hid HQ.out.lt
      clear qc3 o3
      go_wp2_with (fail)
      refine (items_at qb rb room xs _ Q3.out).mono ?_
      rintro e w4 ⟨v4, rfl, hv4, o4⟩
      obtain ⟨av, capv, rfl, hrd⟩ := hv4.reads
      have HV4 := Lib.hid hv4
      have RD4 := Lib.hid hrd
      have QC4 := Lib.hid (QC3.out.only o4 id id)
      have Q4 := Lib.hid (Q3.out.only o4 id id)
      have O4 := Lib.hid (O3.out.trans o4 (fun _ _ h => h))
      have S4 := Lib.hid (And.intro QC3.out.lt o4.size)
      clear hv4 hrd o4
      go_wp2
      go_loopw [12] (fun vj wq => ∃ (j rc2 : Nat), j ≤ len' ∧ vj = .int .i64 j ∧ QRep wq cb rc2 room (runL room xs D' X' j) ∧ (rc2 = rc ∨ w4.heap.size ≤ rc2) ∧ Only (fun k => k = cb ∨ k = rc) w4 wq)
        (fun j _ => len' - (intOf j).toNat)
      case atStart => exact ⟨0, rc, Nat.zero_le _, rfl, QC4.out, .inl rfl, Only.refl _ _⟩
      case round =>
        clear QC4
        obtain ⟨j, rc2, hj, rfl, hq2, hrc2, ho2⟩ := hrel
        have HQ2 := Lib.hid hq2
        have HO2 := Lib.hid ho2
        clear hq2 ho2
        have hs4 := S4.out
        have hl3 := L3.out
        have ho4w : Only (fun _ => False) w wr := O4.out.trans HO2.out (fun k hk h => by have := HO.out.size; omega)
        have HO4W := Lib.hid ho4w
        clear ho4w
        by_cases hlt2 : j < len'
        · obtain ⟨b, off, rfl, hc⟩ := HL'.out (by omega)
          obtain ⟨d0, x0, dlo, dhi⟩ := hc j hlt2
          have e0 := HO4W.out.cell d0 id
          have e1 := HO4W.out.cell x0 id
          clear d0 x0 hc
          go_wp2_with (fail)
          refine (step_at cb rc2 room _ (D' j) (X' j) _ HQ2.out dlo dhi).mono ?_
          rintro e w5 ⟨rfl, rc3, q5, hr5, o5⟩
          have Q5 := Lib.hid q5
          have O5 := Lib.hid o5
          clear q5 o5
          go_wp2
          go_roundw
          case rel => exact ⟨j + 1, rc3, by omega, by go_num, Q5.out, by have := HO2.out.size; omega, HO2.out.trans O5.out (fun k hk h => by omega)⟩
          case measure => simp [intOf]; omega
        · obtain ⟨ys, hys⟩ : ∃ ys, ys = runL room xs D' X' j := ⟨_, rfl⟩
          rw [← hys] at HQ2
          clear hys
          have Q5 := Lib.hid (Q4.out.only HO2.out (fun h => by omega) (fun h => by omega))
          have hxl := Q4.out.le
          have V5 := Lib.hid (ownsRow_only HV4.out HO2.out (fun k hk hh => by omega))
          clear HV4 RD4
          go_wp2_with (fail)
          refine (items_at qb rb room xs _ Q5.out).mono ?_
          rintro e w5 ⟨v5, rfl, hv5, o5⟩
          obtain ⟨a5, c5, rfl, hrd5⟩ := hv5.reads
          obtain ⟨a1, c1, e1, r1⟩ := Owns.reads (show Owns w5 _ _ xs from ownsRow_only V5.out o5 (fun _ _ h => h))
          cases e1
          have R1 := Lib.hid r1
          have R5 := Lib.hid hrd5
          have O5 := Lib.hid (HO4W.out.trans o5 (fun _ _ h => h))
          have Q5' := Lib.hid (Q5.out.only o5 id id)
          have C5 := Lib.hid (HQ2.out.only o5 id id)
          clear hv5 r1 hrd5 o5 V5 Q5
          go_wp2_with (fail)
          refine (alike_eq _ _ _ _ _ xs _ R5.out R1.out (by omega)).mono ?_
          rintro e w6 ⟨rfl, o6⟩
          have O6 := Lib.hid (O5.out.trans o6 (fun _ _ h => h))
          have Q6 := Lib.hid (Q5'.out.only o6 id id)
          have C6 := Lib.hid (C5.out.only o6 id id)
          have hs6 := C5.out.lt
          have hs6' := o6.size
          clear o6 Q5' C5 R1 R5 O5
          go_wp2_with (fail)
          refine (items_at cb rc2 room ys _ C6.out).mono ?_
          rintro e w7 ⟨v7, rfl, hv7, o7⟩
          obtain ⟨a7, c7, rfl, -⟩ := hv7.reads
          have V7 := Lib.hid hv7
          have O7 := Lib.hid (O6.out.trans o7 (fun _ _ h => h))
          have Q7 := Lib.hid (Q6.out.only o7 id id)
          have C7 := Lib.hid (C6.out.only o7 id id)
          have hs7 := o7.size
          have hq6 := Q6.out.lt
          clear hv7 o7 Q6 C6 O6
          go_wp2
          go_loopw [14] (fun vi wp => ∃ (i rb3 : Nat), i ≤ len ∧ vi = .int .i64 i ∧ QRep wp qb rb3 room (runL room xs D X i) ∧ (rb3 = rb ∨ w7.heap.size ≤ rb3) ∧ Only (fun k => k = qb ∨ k = rb) w7 wp)
            (fun i _ => len - (intOf i).toNat)
          case atStart => exact ⟨0, rb, Nat.zero_le _, rfl, Q7.out, .inl rfl, Only.refl _ _⟩
          case round =>
            clear Q7
            obtain ⟨i, rb3, hi, rfl, hq3, hrb3, ho3⟩ := hrel
            have HQ3 := Lib.hid hq3
            have HO3 := Lib.hid ho3
            have ho7w : Only (fun _ => False) w wr := O7.out.trans ho3 (fun k hk h => by have := HO.out.size; omega)
            have HO7W := Lib.hid ho7w
            clear hq3 ho3 ho7w
            by_cases hlt3 : i < len
            · obtain ⟨b, off, rfl, hc⟩ := HL.out (by omega)
              obtain ⟨d0, x0, dlo, dhi⟩ := hc i hlt3
              have e0 := HO7W.out.cell d0 id
              have e1 := HO7W.out.cell x0 id
              clear d0 x0 hc
              go_wp2_with (fail)
              refine (step_at qb rb3 room _ (D i) (X i) _ HQ3.out dlo dhi).mono ?_
              rintro e w8 ⟨rfl, rb4, q8, hr8, o8⟩
              have Q8 := Lib.hid q8
              have O8 := Lib.hid o8
              clear q8 o8
              go_wp2
              go_roundw
              case rel => exact ⟨i + 1, rb4, by omega, by go_num, Q8.out, by have := HO3.out.size; omega, HO3.out.trans O8.out (fun k hk h => by omega)⟩
              case measure => simp [intOf]; omega
            · have C8 := Lib.hid (C7.out.only HO3.out (fun h => by omega) (fun h => by omega))
              have V8 := Lib.hid (ownsRow_only V7.out HO3.out (fun k hk hh => by omega))
              have hyl := C7.out.le
              clear V7
              go_wp2_with (fail)
              refine (items_at cb rc2 room ys _ C8.out).mono ?_
              rintro e w8 ⟨v8, rfl, hv8, o8⟩
              obtain ⟨a8, c8, rfl, hrd8⟩ := hv8.reads
              obtain ⟨a1, c1, e1, r1⟩ := Owns.reads (show Owns w8 _ _ ys from ownsRow_only V8.out o8 (fun _ _ h => h))
              cases e1
              have R1 := Lib.hid r1
              have R8 := Lib.hid hrd8
              have O8 := Lib.hid (HO7W.out.trans o8 (fun _ _ h => h))
              clear hv8 r1 hrd8 o8 V8
              go_wp2_with (fail)
              refine (alike_eq _ _ _ _ _ ys _ R8.out R1.out (by omega)).mono ?_
              rintro e w9 ⟨rfl, o9⟩
              have O9 := Lib.hid (O8.out.trans o9 (fun _ _ h => h))
              clear o9
              go_wp2
              go_ret
              exact ⟨rfl, O9.out⟩

end Go.Proofs.Ytflcdbefakjcbaa
