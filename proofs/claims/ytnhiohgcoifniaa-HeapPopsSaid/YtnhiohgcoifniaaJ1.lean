/- The contracts of firstKey and of slices.Contains, for HeapPops. -/
import Derived.Test.YtnhiohgcoifniaaL6
namespace Go.Proofs.Ytnhiohgcoifniaa
open Go.RowKit Go.Gav Go.BigFrame

/-- A slice that reads as ints. -/
def Reads (w : World) (v : Value) (ms : List Int) : Prop :=
  ∃ ao cap, v = .slice ao ms.length cap ∧ (0 < ms.length → ∃ g, ao = some ⟨g, 0, none⟩ ∧ ∀ i, i < ms.length → w.cell? ⟨g, i, none⟩ = some (.int .i64 (ms.getD i 0)))

theorem reads_of_owns {w : World} {base n : Nat} {v : Value} {ms : List Int} (h : w.ownsRow base 3 1 v n (ms.map (Value.int .i64))) : n = ms.length ∧ Reads w v ms := by
  have hl := h.1
  simp at hl
  obtain rfl : n = ms.length := by omega
  refine ⟨rfl, ?_⟩
  rcases h.2 with ⟨rfl, h0⟩ | ⟨g, cap, cur, rfl, hb, hgg, hn, hc, hs, ht⟩
  · exact ⟨none, 0, by rw [h0], fun h => by omega⟩
  · refine ⟨_, cap, rfl, fun _ => ⟨g, rfl, fun i hi => ?_⟩⟩
    rw [cell_of_row w g i _ _ _ hgg]
    have : (cur.toList.take (ms.length * 1))[i]? = (ms.map (Value.int .i64))[i]? := by rw [ht]
    rw [List.getElem?_take, if_pos (by omega)] at this
    rw [← Array.getElem?_toList, this]
    simp [hi]

theorem index_none (v : Value) (ms : List Int) (x : Int) (w : World) (h : Reads w v ms) (hx : ∀ y ∈ ms, y ≠ x) (hs : ms.length ≤ 1000) :
    Calls Try.prog 31 #[v, .int .i64 x] w fun e w' => e = .returned (.int .i64 (-1)) ∧ w' = w := by
  obtain ⟨ao, cap, rfl, h0⟩ := h
  obtain ⟨n, hn⟩ : ∃ n, n = ms.length := ⟨_, rfl⟩
  rw [← hn] at hs h0 ⊢
  have HN := Lib.hid hn
  have H0 := Lib.hid h0
  have HX := Lib.hid hx
  clear h0 hn hx
  go_enter Try.func31, Try.ntmps31
  go_wp2
  go_loopw [8] (fun vi wr => ∃ i : Nat, i ≤ n ∧ vi = .int .i64 i ∧ wr = w) (fun vi _ => n - (intOf vi).toNat)
  case atStart => exact ⟨0, Nat.zero_le _, rfl, rfl⟩
  case round =>
    obtain ⟨i, hi, rfl, rfl⟩ := hrel
    by_cases hlt : i < n
    · obtain ⟨g, rfl, hr⟩ := H0.out (by omega)
      have c0 := hr i hlt
      have hne : ms.getD i 0 ≠ x := by
        have hi' : i < ms.length := by rw [← HN.out]; exact hlt
        rw [List.getD_eq_getElem?_getD, List.getElem?_eq_getElem hi']
        exact HX.out _ (List.getElem_mem hi')
      obtain ⟨y, hy⟩ : ∃ y, y = ms.getD i 0 := ⟨_, rfl⟩
      rw [← hy] at c0 hne
      have hyx : (x == y) = false := by simpa using fun e => hne e.symm
      clear hr hy hne
      go_wp2
      go_roundw
      case rel => exact ⟨i + 1, by omega, by go_num, by first | rfl | trivial⟩
      case measure => simp [intOf]; omega
    · go_wp2
      go_ret
      exact ⟨rfl, rfl⟩

theorem contains_not (v : Value) (ms : List Int) (x : Int) (w : World) (h : Reads w v ms) (hx : ∀ y ∈ ms, y ≠ x) (hs : ms.length ≤ 1000) :
    Calls Try.prog 23 #[v, .int .i64 x] w fun e w' => e = .returned (.bool false) ∧ w' = w := by
  go_enter Try.func23, Try.ntmps23
  go_wp2_with (fail)
  refine (index_none v ms x _ h hx hs).mono ?_
  rintro e w2 ⟨rfl, rfl⟩
  go_wp2
  go_ret
  exact ⟨rfl, rfl⟩

theorem first_key (hb lb mb : Nat) (S : List En) (w : World) (h : HRep w hb lb mb S) :
    Calls Try.prog 22 #[.pointer (some ⟨hb, 0, none⟩)] w fun e w' => e = .returned (.int .i64 (headE S).1) ∧ Only (fun _ => False) w w' := by
  have HW := Lib.hid h
  clear h
  go_enter Try.func22, Try.ntmps22
  go_wp2_with (fail)
  refine (h_min hb lb mb S _ HW.out).mono ?_
  rintro e w2 ⟨rfl, o2⟩
  have O2 := Lib.hid o2
  clear o2
  go_wp2
  go_ret
  exact ⟨rfl, O2.out.alloc _⟩

end Go.Proofs.Ytnhiohgcoifniaa
