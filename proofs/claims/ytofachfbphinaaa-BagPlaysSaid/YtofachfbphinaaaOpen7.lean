/- How the acts of BagPlays are read out of memory. -/
import Derived.Test.YtofachfbphinaaaL7
namespace Go.Proofs.Ytofachfbphinaaa
open Go.ChangeShapes Go.WideShapes Go.ChangeAt Go.RowKit Go.Gav Go.Deep

set_option maxRecDepth 100000 in
theorem open_acts {H : Type} {enc : TypeId × Value → H} {W : World} {base : Nat} {spare : Nat → Bool} {held : Bool} {fuel : Nat} {a : Option Addr} {len cap : Nat} {x : DataW H × List MemPlace}
    (h : DataW.trod enc Try.prog W base spare held fuel 45 [.slice a len cap] = some x) : ∃ D X, IsActs W a len D X := by
  rcases open_slice Try.underlying45 h with ⟨hcs, _⟩ | ⟨ad, len', cap', m, n, Dd, Pl, hcs, _, hl, _, hm, _, hx⟩
  · simp at hcs
    obtain ⟨rfl, rfl, rfl⟩ := hcs
    exact ⟨fun _ => 0, fun _ => (0, 0), fun h => by omega⟩
  · simp at hcs
    obtain ⟨rfl, rfl, rfl⟩ := hcs
    have hlm : len ≤ m := by rw [hm]; split <;> omega
    have ce : Try.prog.cellsOf 53 = 3 := by kernel_rfl
    obtain ⟨b, off, spot⟩ := ad
    by_cases hz : 0 < len
    case neg => exact ⟨fun _ => 0, fun _ => (0, 0), fun h => absurd h hz⟩
    have hspot : spot = none := by
      obtain ⟨cs', h1, h2⟩ := hx 0 (by omega)
      rw [ce] at h1
      obtain ⟨_, hlen, hcell⟩ := World.cells?_some h1
      match cs', hlen with
      | v0 :: r, _ =>
        have e0 := hcell 0 (by omega)
        have e1 : W.cell? ((({ block := b, off := off, spot := spot } : Addr).add (0 * 3)).add 0) = some v0 := by simpa using e0
        simpa [Addr.add] using World.cell?_spot e1
    subst hspot
    have each : ∀ i, i < len → ∃ q : Int × Int × Int, W.cell? ⟨b, off + i * 3, none⟩ = some (.int .u8 q.1) ∧ W.cell? ⟨b, off + i * 3 + 1, none⟩ = some (.int .i64 q.2.1) ∧
        W.cell? ⟨b, off + i * 3 + 2, none⟩ = some (.int .i64 q.2.2) ∧ 0 ≤ q.1 ∧ q.1 ≤ 255 := by
      intro i hi
      obtain ⟨cs', h1, h2⟩ := hx i (by omega)
      rw [ce] at h1
      obtain ⟨_, hlen, hcell⟩ := World.cells?_some h1
      obtain ⟨xs, k, hk, hxy, _, hxl, hf⟩ := DataW.trod_struct Try.underlying53 h2
      match xs, hxl, cs', hlen with
      | [y0, y1], _, [v0, v1, v2], _ =>
        have g0 := hf 0 _ rfl
        have g1 := hf 1 _ rfl
        have e0 := hcell 0 (by omega)
        have e1 := hcell 1 (by omega)
        have e2 := hcell 2 (by omega)
        simp at g0 g1
        rw [addr_add, addr_add] at e0 e1 e2
        have cf : Try.prog.cellsOf 5 = 1 := by kernel_rfl
        have cg : Try.prog.cellsOf 49 = 2 := by kernel_rfl
        have ch : Try.prog.cellsOf 3 = 1 := by kernel_rfl
        rw [cf] at g0
        rw [cg] at g1
        simp at g0 g1
        obtain ⟨ys, k2, hk2, hxy2, _, hyl, hf2⟩ := DataW.trod_struct Try.underlying49 g1
        match ys, hyl with
        | [p0, p1], _ =>
          have j0 := hf2 0 _ rfl
          have j1 := hf2 1 _ rfl
          simp at j0 j1
          rw [ch] at j0 j1
          simp at j0 j1
          obtain ⟨z0, ez0, -, w0⟩ := DataW.trod_int Try.underlying5 g0
          obtain ⟨z1, ez1, -, w1⟩ := DataW.trod_int Try.underlying3 j0
          obtain ⟨z2, ez2, -, w2⟩ := DataW.trod_int Try.underlying3 j1
          simp at ez0 ez1 ez2
          have b0 := bounds_u8 w0
          refine ⟨(z0, z1, z2), ?_, ?_, ?_, b0.1, b0.2⟩
          · rw [← ez0]; simpa using e0
          · rw [← ez1]; simpa using e1
          · rw [← ez2]; simpa using e2
    obtain ⟨q, hq⟩ := choose_lt each
    exact ⟨fun i => (q i).1, fun i => ((q i).2.1, (q i).2.2), fun h0 => ⟨b, off, rfl, fun i hi => hq i hi⟩⟩

end Go.Proofs.Ytofachfbphinaaa
