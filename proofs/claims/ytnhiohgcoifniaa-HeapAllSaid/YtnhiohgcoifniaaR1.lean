/- The contracts of the document's Get and Del. -/
import Derived.Test.YtnhiohgcoifniaaOpen
namespace Go.Proofs.Ytnhiohgcoifniaa
open Go.RowKit Go.Gav Go.BigFrame

/-- A slice (of blocks from base on) that reads as the entries S. -/
def ReadE (w : World) (base : Nat) (v : Value) (S : List En) : Prop :=
  ∃ ao cap, v = .slice ao S.length cap ∧ S.length ≤ cap ∧ (0 < S.length → ∃ rb off, ao = some ⟨rb, off, none⟩ ∧ base ≤ rb ∧ ∀ i, i < S.length → w.cell? ⟨rb, off + i * 2, none⟩ = some (.int .i64 (atE S i).1) ∧ w.cell? ⟨rb, off + i * 2 + 1, none⟩ = some (.int .i64 (atE S i).2))

theorem ReadE.only {S' : Nat → Prop} {w w' : World} {base : Nat} {v : Value} {S : List En} (h : ReadE w base v S) (ho : Only S' w w') (hS : ∀ k, base ≤ k → k < w.heap.size → ¬ S' k) : ReadE w' base v S := by
  obtain ⟨ao, cap, e, hc, h0⟩ := h
  refine ⟨ao, cap, e, hc, fun hp => ?_⟩
  obtain ⟨rb, off, e2, hb, hr⟩ := h0 hp
  refine ⟨rb, off, e2, hb, fun i hi => ?_⟩
  obtain ⟨h1, h2⟩ := hr i hi
  have hlt := World.block_lt_of_cell? w _ h1
  exact ⟨ho.cell h1 (hS rb hb hlt), ho.cell h2 (hS rb hb hlt)⟩

theorem ReadE.of_owns {w : World} {base n : Nat} {v : Value} {S : List En} (h : w.ownsRow base 33 2 v n (flat S)) : n = S.length ∧ ReadE w base v S := by
  have hl := h.1
  rw [flat_length] at hl
  obtain rfl : n = S.length := by omega
  refine ⟨rfl, ?_⟩
  rcases h.2 with ⟨rfl, h0⟩ | ⟨g, cap, cur, rfl, hb, h1, h2, h3, h4, h5⟩
  · exact ⟨none, 0, by rw [h0], by omega, fun h => by omega⟩
  · refine ⟨_, cap, rfl, h2, fun hp => ⟨g, 0, rfl, hb, fun i hi => ?_⟩⟩
    have hr : RowE w 33 g (.slice (some ⟨g, 0, none⟩) S.length cap) S := .inr ⟨cap, cur, rfl, h1, h2, h3, h4, h5⟩
    obtain ⟨cap', hv, -, -, -, -, hc⟩ := hr.some hp
    simpa using hc i hi

theorem ReadE.tail {w : World} {base : Nat} {x : En} {S : List En} {ao : Option Addr} {n cap : Nat} (h : ReadE w base (.slice ao n cap) (x :: S)) :
    ∃ rb off, ao = some ⟨rb, off, none⟩ ∧ n = S.length + 1 ∧ n ≤ cap := by
  obtain ⟨ao', cap', e, hc, h0⟩ := h
  cases e
  obtain ⟨rb, off, e2, _⟩ := h0 (by simp)
  exact ⟨rb, off, e2, rfl, hc⟩

theorem getS_take {S : List En} {k : Int} {i : Nat} (hi : i < S.length) (h : getS (S.take i) k = none) (hk : (atE S i).1 = k) : getS S k = some (atE S i).2 := by
  unfold getS at *
  rw [Option.map_eq_none_iff, List.find?_eq_none] at h
  have e : S = S.take i ++ (atE S i :: S.drop (i + 1)) := by
    rw [atE_get S i hi]; simp
  have e2 : S.find? (fun e => decide (e.1 = k)) = some (atE S i) := by
    rw [show S.find? (fun e => decide (e.1 = k)) = (S.take i ++ (atE S i :: S.drop (i + 1))).find? (fun e => decide (e.1 = k)) from congrArg _ e]
    rw [List.find?_append, List.find?_eq_none.2 h]
    simp [hk]
  rw [e2]; rfl

theorem take_snoc (S : List En) (i : Nat) (hi : i < S.length) : S.take (i + 1) = S.take i ++ [atE S i] := by
  rw [atE_get S i hi, List.take_succ_eq_append_getElem hi]

theorem getS_snoc_ne {S : List En} {k : Int} {x : En} (h : getS S k = none) (hk : x.1 ≠ k) : getS (S ++ [x]) k = none := by
  unfold getS at *
  rw [Option.map_eq_none_iff] at h
  rw [List.find?_append, h]
  simp [hk]

set_option maxRecDepth 100000 in
set_option maxHeartbeats 1000000 in
theorem ref_get (v : Value) (base : Nat) (S : List En) (k : Int) (w : World) (h : ReadE w base v S) (hs : S.length ≤ 1000) :
    Calls Try.prog 16 #[v, .int .i64 k] w fun e w' => e = .returned (.tuple #[.int .i64 ((getS S k).getD 0), .bool (getS S k).isSome]) ∧ w' = w := by
  obtain ⟨ao, cap, rfl, hc, h0⟩ := h
  obtain ⟨n, hn⟩ : ∃ n, n = S.length := ⟨_, rfl⟩
  rw [← hn] at hs h0 ⊢
  have HN := Lib.hid hn
  have H0 := Lib.hid h0
  clear hc h0 hn
  go_enter Try.func16, Try.ntmps16
  go_wp2
  go_loopw [6] (fun vi wr => ∃ i : Nat, i ≤ n ∧ vi = .int .i64 i ∧ getS (S.take i) k = none ∧ wr = w) (fun vi _ => n - (intOf vi).toNat)
  case atStart => exact ⟨0, Nat.zero_le _, rfl, by simp [getS], rfl⟩
  case round =>
    obtain ⟨i, hi, rfl, hg, rfl⟩ := hrel
    have HG := Lib.hid hg
    clear hg
    by_cases hlt : i < n
    · obtain ⟨rb, off, rfl, -, hr⟩ := H0.out (by omega)
      obtain ⟨c0, c1⟩ := hr i hlt
      clear hr
      by_cases hk : (atE S i).1 = k
      · have hgs := getS_take (by rw [← HN.out]; exact hlt) HG.out hk
        obtain ⟨y, hy⟩ : ∃ y, y = (atE S i).2 := ⟨_, rfl⟩
        rw [hk] at c0
        rw [← hy] at c1 hgs
        have HGS := Lib.hid hgs
        clear hk hy hgs
        go_wp2
        go_ret2
        exact ⟨by rw [HGS.out]; rfl, rfl⟩
      · have hg2 := Lib.hid (getS_snoc_ne HG.out hk)
        obtain ⟨x, hx⟩ : ∃ x, x = (atE S i).1 := ⟨_, rfl⟩
        have HX := Lib.hid hx
        rw [← hx] at c0 hk
        have hxk : (x == k) = false := by simpa using hk
        clear hx hk
        go_wp2
        go_roundw
        case rel => exact ⟨i + 1, by omega, by go_num, by rw [take_snoc S i (by rw [← HN.out]; exact hlt)]; exact hg2.out, by first | rfl | trivial⟩
        case measure => simp [intOf]; omega
    · have hi2 : i = n := by omega
      have hgs : getS S k = none := by
        have := HG.out
        rw [hi2, HN.out, List.take_length] at this
        exact this
      have HGS := Lib.hid hgs
      clear hgs hi2
      go_wp2
      go_ret2
      exact ⟨by rw [HGS.out]; rfl, rfl⟩

end Go.Proofs.Ytnhiohgcoifniaa
