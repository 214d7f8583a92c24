/- How the arguments of the laws on bags are read out of memory; laws on sorted lists. -/
import Derived.Test.YtofachfbphinaaaC21
import Derived.Deep.SlicePairs
import Derived.ProofKit
import Derived.OpenShut
import Derived.ChangeOld
import Derived.Below
import Derived.ChangeSlices
namespace Go.Proofs.Ytofachfbphinaaa
open Go.ChangeShapes Go.WideShapes Go.ChangeAt Go.RowKit Go.Gav Go.Deep

theorem own : ownKnob Try.prog.godebug = none := by kernel_rfl
theorem laidOut : laidOutB Try.prog = true := by kernel_rfl

theorem addr_add (b off j : Nat) : (⟨b, off, none⟩ : Addr).add j = ⟨b, off + j, none⟩ := by simp [Addr.add]

/-- A slice of ints, as it lies in memory. -/
def IsInts (w : World) (a : Option Addr) (len : Nat) (l : List Int) : Prop :=
  len = l.length ∧ ArgI w (fun _ => False) a l

/-- A slice of bytes, as it lies in memory. -/
def IsBytes (w : World) (a : Option Addr) (len : Nat) (Y : Nat → Int) : Prop :=
  0 < len → ∃ b off, a = some ⟨b, off, none⟩ ∧ ∀ i, i < len → w.cell? ⟨b, off + i, none⟩ = some (.int .u8 (Y i)) ∧ 0 ≤ Y i ∧ Y i ≤ 255

theorem argI_of {w : World} {a : Option Addr} {len : Nat} {X : Nat → Int} (h : 0 < len → ∃ b off, a = some ⟨b, off, none⟩ ∧ ∀ i, i < len → w.cell? ⟨b, off + i, none⟩ = some (.int .i64 (X i))) :
    IsInts w a len ((List.range len).map X) := by
  refine ⟨by simp, fun h0 => ?_⟩
  obtain ⟨b, off, ha, hc⟩ := h (by simpa using h0)
  refine ⟨b, off, ha, id, fun i hi => ?_⟩
  have hi' : i < len := by simpa using hi
  rw [hc i hi']
  simp [List.getD_eq_getElem?_getD, hi']

theorem open_intl {H : Type} {enc : TypeId × Value → H} {W : World} {base : Nat} {spare : Nat → Bool} {held : Bool} {fuel : Nat} {a : Option Addr} {len cap : Nat} {x : DataW H × List MemPlace}
    (h : DataW.trod enc Try.prog W base spare held fuel 22 [.slice a len cap] = some x) : ∃ D, ∃ _X : Unit, IsInts W a len D := by
  rcases open_ints Try.underlying22 Try.underlying3 (by kernel_rfl) h with ⟨hcs, _⟩ | ⟨ad, len', cap', zs, hcs, _, hl, _, hm, _, hx, hw⟩
  · simp at hcs
    obtain ⟨rfl, rfl, rfl⟩ := hcs
    exact ⟨[], (), rfl, fun h => by simp at h⟩
  · simp at hcs
    obtain ⟨rfl, rfl, rfl⟩ := hcs
    have hlm : len ≤ zs.length := by rw [hm]; split <;> omega
    obtain ⟨b, off, spot⟩ := ad
    by_cases hz : 0 < len
    case neg =>
      obtain rfl : len = 0 := by omega
      exact ⟨[], (), rfl, fun h => by simp at h⟩
    have hspot : spot = none := by
      have e1 := hx 0 (by omega)
      simpa [Addr.add] using World.cell?_spot e1
    subst hspot
    refine ⟨_, (), argI_of (X := fun i => zs.getD i 0) (fun _ => ⟨b, off, rfl, fun i hi => ?_⟩)⟩
    have := hx i (by omega)
    rwa [addr_add] at this

theorem open_bytes {H : Type} {enc : TypeId × Value → H} {W : World} {base : Nat} {spare : Nat → Bool} {held : Bool} {fuel : Nat} {a : Option Addr} {len cap : Nat} {x : DataW H × List MemPlace}
    (h : DataW.trod enc Try.prog W base spare held fuel 23 [.slice a len cap] = some x) : ∃ D, ∃ _X : Unit, IsBytes W a len D := by
  rcases open_ints Try.underlying23 Try.underlying5 (by kernel_rfl) h with ⟨hcs, _⟩ | ⟨ad, len', cap', zs, hcs, _, hl, _, hm, _, hx, hw⟩
  · simp at hcs
    obtain ⟨rfl, rfl, rfl⟩ := hcs
    exact ⟨fun _ => 0, (), fun h => by omega⟩
  · simp at hcs
    obtain ⟨rfl, rfl, rfl⟩ := hcs
    have hlm : len ≤ zs.length := by rw [hm]; split <;> omega
    obtain ⟨b, off, spot⟩ := ad
    by_cases hz : 0 < len
    case neg =>
      obtain rfl : len = 0 := by omega
      exact ⟨fun _ => 0, (), fun h => by omega⟩
    have hspot : spot = none := by
      have e1 := hx 0 (by omega)
      simpa [Addr.add] using World.cell?_spot e1
    subst hspot
    refine ⟨fun i => zs.getD i 0, (), fun _ => ⟨b, off, rfl, fun i hi => ?_⟩⟩
    have h1 := hx i (by omega)
    rw [addr_add] at h1
    have hmem : zs.getD i 0 ∈ zs := by
      rw [List.getD_eq_getElem?_getD, List.getElem?_eq_getElem (show i < zs.length by omega)]
      exact List.getElem_mem _
    have b0 := bounds_u8 (hw _ hmem)
    exact ⟨h1, b0.1, b0.2⟩

theorem ints_lie {w W : World} {S : Nat → Prop} {a : Option Addr} {len : Nat} {l : List Int} (h : IsInts w a len l) (ho : Only S w W) (hS : ∀ g, g < w.heap.size → ¬ S g) : 0 < len → ∃ aa, a = some aa ∧ ∀ j u, (flatI l)[j]? = some u → W.cell? (aa.add j) = some u := by
  intro h0
  obtain ⟨hl, ha⟩ := h
  obtain ⟨g, o, e, _, hc⟩ := ha (by omega)
  refine ⟨_, e, fun j u hj => ?_⟩
  have hlt : j < l.length := by
    have := (List.getElem?_eq_some_iff.1 hj).1
    rwa [flatI_length, Nat.mul_one] at this
  rw [addr_add]
  have h1 := hc j hlt
  have h2 := flatI_get l j hlt
  rw [h2] at hj
  cases hj
  exact ho.cell h1 (hS g (World.block_lt_of_cell? w _ h1))

/-! ### Sorted lists -/
theorem insBI_perm (xs : List Int) (x : Int) : (insBI xs x).Perm (x :: xs) := by
  induction xs with
  | nil => exact List.Perm.refl _
  | cons y ys ih =>
    simp only [insBI]
    split
    · exact (ih.cons y).trans (List.Perm.swap _ _ _)
    · exact List.Perm.refl _

theorem foldl_insI_perm (l xs : List Int) : (l.foldl insBI xs).Perm (xs ++ l) := by
  induction l generalizing xs with
  | nil => simp
  | cons y ys ih =>
    rw [List.foldl_cons]
    exact (ih _).trans (((insBI_perm xs y).append_right ys).trans (List.perm_middle.symm))

theorem foldl_insI_sorted (l xs : List Int) (h : UpI xs) : UpI (l.foldl insBI xs) := by
  induction l generalizing xs with
  | nil => exact h
  | cons y ys ih => rw [List.foldl_cons]; exact ih _ (insBI_up _ _ h)

theorem sorted_eq {xs ys : List Int} (hx : UpI xs) (hy : UpI ys) (h : xs.Perm ys) : xs = ys :=
  List.Perm.eq_of_pairwise (fun _ _ _ _ h1 h2 => Int.le_antisymm h1 h2) hx hy h

/-- A list of ints, sorted. -/
def sortI (l : List Int) : List Int := l.foldl insBI []
theorem sortI_up (l : List Int) : UpI (sortI l) := foldl_insI_sorted l [] List.Pairwise.nil
theorem sortI_perm (l : List Int) : (sortI l).Perm l := by
  have := foldl_insI_perm l []
  rwa [List.nil_append] at this
theorem sortI_length (l : List Int) : (sortI l).length = l.length := (sortI_perm l).length_eq
theorem sortI_of_perm {l m : List Int} (h : l.Perm m) : sortI l = sortI m :=
  sorted_eq (sortI_up _) (sortI_up _) ((sortI_perm l).trans (h.trans (sortI_perm m).symm))
theorem merge_sort {l a b : List Int} (h : l.Perm (a ++ b)) : (sortI b).foldl insBI (sortI a) = sortI l :=
  sorted_eq (foldl_insI_sorted _ _ (sortI_up _)) (sortI_up _) ((foldl_insI_perm _ _).trans (((sortI_perm a).append (sortI_perm b)).trans (h.symm.trans (sortI_perm l).symm)))

end Go.Proofs.Ytofachfbphinaaa
