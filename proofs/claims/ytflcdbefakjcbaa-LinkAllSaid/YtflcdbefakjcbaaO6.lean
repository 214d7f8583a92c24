/- How the acts of the laws on nets are read out of memory. -/
import Derived.Test.YtflcdbefakjcbaaOpen
import Derived.Deep.Slices
namespace Go.Proofs.Ytflcdbefakjcbaa
open Go.ChangeShapes Go.WideShapes Go.ChangeAt Go.RowKit Go.Gav Go.Deep

/-- A number of 64 bits. -/
def I64 (z : Int) : Prop := (Lit.int .i64 z).wf = true

/-- A slice of acts (a kind, a link, a number each), as it lies in memory. -/
def IsLacts (w : World) (a : Option Addr) (len : Nat) (D : Nat → Int) (X : Nat → Int × Int × Int) : Prop :=
  0 < len → ∃ b off, a = some ⟨b, off, none⟩ ∧ ∀ i, i < len → w.cell? ⟨b, off + i * 4, none⟩ = some (.int .u8 (D i)) ∧ w.cell? ⟨b, off + i * 4 + 1, none⟩ = some (.int .i64 (X i).1) ∧
    w.cell? ⟨b, off + i * 4 + 2, none⟩ = some (.int .i64 (X i).2.1) ∧ w.cell? ⟨b, off + i * 4 + 3, none⟩ = some (.int .i64 (X i).2.2) ∧ 0 ≤ D i ∧ D i ≤ 255 ∧ I64 (X i).1 ∧ I64 (X i).2.1 ∧ I64 (X i).2.2

set_option maxRecDepth 100000 in
theorem open_lacts {H : Type} {enc : TypeId × Value → H} {W : World} {base : Nat} {spare : Nat → Bool} {held : Bool} {fuel : Nat} {a : Option Addr} {len cap : Nat} {x : DataW H × List MemPlace}
    (h : DataW.trod enc Try.prog W base spare held fuel 50 [.slice a len cap] = some x) : ∃ D X, IsLacts W a len D X := by
  rcases open_slice Try.underlying50 h with ⟨hcs, _⟩ | ⟨ad, len', cap', m, n, Dd, Pl, hcs, _, hl, _, hm, _, hx⟩
  · simp at hcs
    obtain ⟨rfl, rfl, rfl⟩ := hcs
    exact ⟨fun _ => 0, fun _ => (0, 0, 0), fun h => by omega⟩
  · simp at hcs
    obtain ⟨rfl, rfl, rfl⟩ := hcs
    have hlm : len ≤ m := by rw [hm]; split <;> omega
    have ce : Try.prog.cellsOf 56 = 4 := by kernel_rfl
    obtain ⟨b, off, spot⟩ := ad
    by_cases hz : 0 < len
    case neg => exact ⟨fun _ => 0, fun _ => (0, 0, 0), fun h => absurd h hz⟩
    have hspot : spot = none := by
      obtain ⟨cs', h1, h2⟩ := hx 0 (by omega)
      rw [ce] at h1
      obtain ⟨_, hlen, hcell⟩ := World.cells?_some h1
      match cs', hlen with
      | v0 :: r, _ =>
        have e0 := hcell 0 (by omega)
        have e1 : W.cell? ((({ block := b, off := off, spot := spot } : Addr).add (0 * 4)).add 0) = some v0 := by simpa using e0
        simpa [Addr.add] using World.cell?_spot e1
    subst hspot
    have each : ∀ i, i < len → ∃ q : Int × Int × Int × Int, W.cell? ⟨b, off + i * 4, none⟩ = some (.int .u8 q.1) ∧ W.cell? ⟨b, off + i * 4 + 1, none⟩ = some (.int .i64 q.2.1) ∧
        W.cell? ⟨b, off + i * 4 + 2, none⟩ = some (.int .i64 q.2.2.1) ∧ W.cell? ⟨b, off + i * 4 + 3, none⟩ = some (.int .i64 q.2.2.2) ∧ 0 ≤ q.1 ∧ q.1 ≤ 255 ∧ I64 q.2.1 ∧ I64 q.2.2.1 ∧ I64 q.2.2.2 := by
      intro i hi
      obtain ⟨cs', h1, h2⟩ := hx i (by omega)
      rw [ce] at h1
      obtain ⟨_, hlen, hcell⟩ := World.cells?_some h1
      obtain ⟨xs, k, hk, hxy, _, hxl, hf⟩ := DataW.trod_struct Try.underlying56 h2
      match xs, hxl, cs', hlen with
      | [y0, y1, y2, y3], _, [v0, v1, v2, v3], _ =>
        have g0 := hf 0 _ rfl
        have g1 := hf 1 _ rfl
        have g2 := hf 2 _ rfl
        have g3 := hf 3 _ rfl
        have e0 := hcell 0 (by omega)
        have e1 := hcell 1 (by omega)
        have e2 := hcell 2 (by omega)
        have e3 := hcell 3 (by omega)
        simp at g0 g1 g2 g3
        rw [addr_add, addr_add] at e0 e1 e2 e3
        have cf : Try.prog.cellsOf 5 = 1 := by kernel_rfl
        have cg : Try.prog.cellsOf 3 = 1 := by kernel_rfl
        rw [cf] at g0
        rw [cg] at g1 g2 g3
        simp at g0 g1 g2 g3
        obtain ⟨z0, ez0, -, w0⟩ := DataW.trod_int Try.underlying5 g0
        obtain ⟨z1, ez1, -, w1⟩ := DataW.trod_int Try.underlying3 g1
        obtain ⟨z2, ez2, -, w2⟩ := DataW.trod_int Try.underlying3 g2
        obtain ⟨z3, ez3, -, w3⟩ := DataW.trod_int Try.underlying3 g3
        simp at ez0 ez1 ez2 ez3
        have b0 := bounds_u8 w0
        refine ⟨(z0, z1, z2, z3), ?_, ?_, ?_, ?_, b0.1, b0.2, w1, w2, w3⟩
        · rw [← ez0]; simpa using e0
        · rw [← ez1]; simpa using e1
        · rw [← ez2]; simpa using e2
        · rw [← ez3]; simpa using e3
    obtain ⟨q, hq⟩ := choose_lt each
    exact ⟨fun i => (q i).1, fun i => (q i).2, fun h0 => ⟨b, off, rfl, fun i hi => hq i hi⟩⟩


end Go.Proofs.Ytflcdbefakjcbaa
