/- Slices of entries in a known block. No statement is proved here. -/
import Derived.Test.YtnhiohgcoifniaaR3
import Derived.Test.YtnhiohgcoifniaaOpen
namespace Go.Proofs.Ytnhiohgcoifniaa
open Go.RowKit Go.Gav Go.BigFrame

/-- A slice, in block rb, that reads as the entries S. -/
def ReadB (w : World) (rb : Nat) (v : Value) (S : List En) : Prop :=
  ∃ ao cap, v = .slice ao S.length cap ∧ S.length ≤ cap ∧ (0 < S.length → ∃ off, ao = some ⟨rb, off, none⟩ ∧ ∀ i, i < S.length → w.cell? ⟨rb, off + i * 2, none⟩ = some (.int .i64 (atE S i).1) ∧ w.cell? ⟨rb, off + i * 2 + 1, none⟩ = some (.int .i64 (atE S i).2))

theorem ReadE.b {w : World} {base : Nat} {v : Value} {S : List En} (h : ReadE w base v S) : ∃ rb, base ≤ rb ∧ ReadB w rb v S := by
  obtain ⟨ao, cap, e, hc, h0⟩ := h
  by_cases hp : 0 < S.length
  · obtain ⟨rb, off, e2, hb, hr⟩ := h0 hp
    exact ⟨rb, hb, ao, cap, e, hc, fun _ => ⟨off, e2, hr⟩⟩
  · exact ⟨base, Nat.le_refl _, ao, cap, e, hc, fun h => absurd h hp⟩
theorem ReadB.e {w : World} {rb : Nat} {v : Value} {S : List En} (h : ReadB w rb v S) : ReadE w rb v S := by
  obtain ⟨ao, cap, e, hc, h0⟩ := h
  exact ⟨ao, cap, e, hc, fun hp => let ⟨off, e2, hr⟩ := h0 hp; ⟨rb, off, e2, Nat.le_refl _, hr⟩⟩
theorem ReadB.only {S' : Nat → Prop} {w w' : World} {rb : Nat} {v : Value} {S : List En} (h : ReadB w rb v S) (ho : Only S' w w') (hS : 0 < S.length → ¬ S' rb) : ReadB w' rb v S := by
  obtain ⟨ao, cap, e, hc, h0⟩ := h
  refine ⟨ao, cap, e, hc, fun hp => ?_⟩
  obtain ⟨off, e2, hr⟩ := h0 hp
  exact ⟨off, e2, fun i hi => ⟨ho.cell (hr i hi).1 (hS hp), ho.cell (hr i hi).2 (hS hp)⟩⟩
theorem ReadB.lt {w : World} {rb : Nat} {v : Value} {S : List En} (h : ReadB w rb v S) (hp : 0 < S.length) : rb < w.heap.size := by
  obtain ⟨ao, cap, e, hc, h0⟩ := h
  obtain ⟨off, e2, hr⟩ := h0 hp
  exact World.block_lt_of_cell? w _ (hr 0 hp).1


end Go.Proofs.Ytnhiohgcoifniaa
