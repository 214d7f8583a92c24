/- How the arguments of the laws on queues are read out of memory. -/
import Derived.Test.YtflcdbefakjcbaaL1
import Derived.Test.YtflcdbefakjcbaaA3
import Derived.Deep.SlicePairs
import Derived.ProofKit
import Derived.OpenShut
import Derived.ChangeOld
import Derived.Below
namespace Go.Proofs.Ytflcdbefakjcbaa
open Go.ChangeShapes Go.WideShapes Go.ChangeAt Go.RowKit Go.Gav Go.Deep

theorem own : ownKnob Try.prog.godebug = none := by kernel_rfl
theorem laidOut : laidOutB Try.prog = true := by kernel_rfl

theorem addr_add (b off j : Nat) : (⟨b, off, none⟩ : Addr).add j = ⟨b, off + j, none⟩ := by simp [Addr.add]

theorem open_acts {H : Type} {enc : TypeId × Value → H} {W : World} {base : Nat} {spare : Nat → Bool} {held : Bool} {fuel : Nat} {a : Option Addr} {len cap : Nat} {x : DataW H × List MemPlace}
    (h : DataW.trod enc Try.prog W base spare held fuel 22 [.slice a len cap] = some x) : ∃ D X, IsActs W a len D X := by
  rcases open_slice_pairs Try.underlying22 Try.underlying29 (by kernel_rfl) rfl rfl (by kernel_rfl) (by kernel_rfl) h with ⟨hcs, _⟩ | ⟨ad, len', cap', m, n, V0, V1, D0, D1, P0, P1, hcs, _, hl, _, hm, _, hx⟩
  · simp at hcs
    obtain ⟨rfl, rfl, rfl⟩ := hcs
    exact ⟨fun _ => 0, fun _ => 0, fun h => by omega⟩
  · simp at hcs
    obtain ⟨rfl, rfl, rfl⟩ := hcs
    have hlm : len ≤ m := by rw [hm]; split <;> omega
    refine ⟨fun i => intOf (V0 i), fun i => intOf (V1 i), fun h0 => ?_⟩
    obtain ⟨b, off, spot⟩ := ad
    have hs := (hx 0 (by omega)).1
    have hspot : spot = none := by simpa [Addr.add] using World.cell?_spot hs
    subst hspot
    refine ⟨b, off, rfl, fun i hi => ?_⟩
    obtain ⟨g0, g1, t0, t1⟩ := hx i (by omega)
    obtain ⟨z0, e0, -, w0⟩ := DataW.trod_int Try.underlying5 t0
    obtain ⟨z1, e1, -, w1⟩ := DataW.trod_int Try.underlying3 t1
    simp at e0 e1
    rw [addr_add] at g0 g1
    rw [e0] at g0
    rw [e1] at g1
    simp only [e0, e1, intOf]
    have b0 := bounds_u8 w0
    exact ⟨g0, by rw [Nat.add_assoc]; exact g1, b0.1, b0.2⟩

end Go.Proofs.Ytflcdbefakjcbaa
