/- The law returns true for every input, and its arguments read afterwards as they read before. Conditions: none. -/
import Derived.Test.YtofachfbphinaaaL3b
namespace Go.Proofs.Ytofachfbphinaaa.bagOrder
open Go.ChangeShapes Go.WideShapes Go.ChangeAt Go.RowKit Go.Gav Go.BigFrame
open Go.ChangeMaps (open_string shut_string)
set_option linter.unusedVariables false

theorem walk (a : Option Addr) (len cap : Nat) (l : List Int) (a1 : Option Addr) (len1 cap1 : Nat) (Y : Nat → Int) (cut : Int) (w : World) (hl : IsInts w a len l) (hy : IsBytes w a1 len1 Y) (hc : (Lit.int .u8 cut).wf = true) :
    Calls Try.prog 3 #[.slice a len cap, .slice a1 len1 cap1, .int .u8 cut] w fun e w' => e = .returned (.bool true) ∧ Below w.heap.size w w' := by
  have fin : ∀ (e : Ending) (w' : World), (e = .returned (.bool true) ∧ Only (fun _ => False) w w') → e = .returned (.bool true) ∧ Below w.heap.size w w' :=
    fun e w' ⟨he, ho⟩ => ⟨he, ho.below (Nat.le_refl _) (fun _ h => h.elim)⟩
  have hb := bounds_u8 hc
  by_cases hbig : 200 < len ∨ 200 < len1
  · exact (order_big a len cap a1 len1 cap1 cut w hbig).mono fin
  · by_cases hz : 0 < len
    · exact (order_walk_pos a len cap l a1 len1 cap1 Y cut w hl hy hb.1 hb.2 (by omega) (by omega) hz).mono fin
    · obtain rfl : len = 0 := by omega
      exact (order_walk_nil a cap a1 len1 cap1 cut w (by omega)).mono fin

set_option maxRecDepth 100000 in
theorem lifted (os : Os) (started : os.Started) (H : Type) (enc : TypeId × Value → H) :
    ReturnsInHanded {} Try.checked os 3 .any (Rows.bagOrderSpec.pre6 enc Try.prog Try.f3 Rows.bagOrderRow.domain false) (Rows.bagOrderSpec.post enc Try.prog Try.f3 false true false false) := by
  refine returnsInHanded_of_change (C := Try.checked) own started (by kernel_rfl) Try.func3
    (ChangeSpec.witness6 (enc := enc) (C := Try.checked) false ⟨#[], #[.slice none 0 0, .slice none 0 0, .int .u8 0], []⟩ 8 (by kernel_rfl) (by kernel_rfl) (by kernel_rfl) (by kernel_rfl)) ?_
  intro W base args ds gs before hval0 hW hcnd _
  have hval : ∀ (j : Nat) t v, Try.f3.params[j]? = some t → args[j]? = some v → Value.okWide Try.prog W .any base t v := hval0
  have hW' := hW
  obtain ⟨p, q, hA0, hV, rfl, hfz, hnd⟩ := hW
  have hA : DataW.TrodAll enc Try.prog W 0 (fun _ => true) true Try.f3.params.toList args.toList ds p := hA0
  rw [Try.params3] at hA hval
  obtain ⟨v0, vs0, d0, ds0, p0, q0, hargs, rfl, rfl, h0, r0⟩ := trodAll_cons hA
  obtain ⟨v1, vs1, d1, ds1, p1, q1, rfl, rfl, rfl, h1, r1⟩ := trodAll_cons r0
  obtain ⟨v2, vs2, d2, ds2, p2, q2, rfl, rfl, rfl, h2, r2⟩ := trodAll_cons r1
  obtain ⟨rfl, rfl, rfl⟩ := trodAll_nil r2
  obtain rfl : args = #[v0, v1, v2] := by cases args; simp_all
  obtain ⟨rfl, rfl⟩ := trodVars_none hV
  obtain ⟨a0, len0, cap0, rfl⟩ := okWide_slice Try.underlying22 (hval 0 22 v0 rfl rfl)
  have k0 := h0
  have lt0 : ∀ x ∈ p0, x.block < W.heap.size := by obtain ⟨m, hm⟩ := k0; exact DataW.trod_lt m _ _ _ hm
  obtain ⟨D0, hl0⟩ : ∃ D, IsInts W a0 len0 D := by
    obtain ⟨fuel, hf⟩ := h0
    obtain ⟨D, X, hD⟩ := open_intl hf
    exact ⟨D, hD⟩
  obtain ⟨a1, len1, cap1, rfl⟩ := okWide_slice Try.underlying23 (hval 1 23 v1 rfl rfl)
  have k1 := h1
  have lt1 : ∀ x ∈ p1, x.block < W.heap.size := by obtain ⟨m, hm⟩ := k1; exact DataW.trod_lt m _ _ _ hm
  obtain ⟨D1, hl1⟩ : ∃ D, IsBytes W a1 len1 D := by
    obtain ⟨fuel, hf⟩ := h1
    obtain ⟨D, X, hD⟩ := open_bytes hf
    exact ⟨D, hD⟩
  obtain ⟨a2, rfl, rfl, rfl, w2⟩ := open_int Try.underlying5 (hval 2 5 v2 rfl rfl) h2
  clear hA0 hval0
  refine (walk a0 len0 cap0 D0 a1 len1 cap1 D1 a2 W hl0 hl1 w2).mono fun e W' ⟨he, bel⟩ => ?_
  subst he
  exact ⟨_, rfl, _, _, _, [], _, [], hW', trodAll_mk1 (shut_bool Try.underlying4 _), (trodAll_cons_mk (Below.trod laidOut (by kernel_rfl) (of_decide_eq_true (by kernel_rfl)) k0 bel lt0) (trodAll_cons_mk (Below.trod laidOut (by kernel_rfl) (of_decide_eq_true (by kernel_rfl)) k1 bel lt1) (trodAll_cons_mk (shut_int Try.underlying5 w2) trodAll_mk0))), rfl, bel.frame _, fun h => by cases h⟩

theorem over : Rows.bagOrderRow.holds Try.pinned (OpenSpec.ofChange Rows.bagOrderSpec) :=
  OpenClaim.holds_of_wide 3 Try.f3 rfl rfl rfl rfl rfl rfl rfl ⟨rfl, rfl, rfl, rfl, rfl⟩ rfl rfl rfl rfl rfl (by kernel_rfl) Try.func3 (by kernel_rfl)
    (of_decide_eq_true (by kernel_rfl)) (by unfold Func.isWrapper; first | (rw [if_pos (by decide +kernel)]; kernel_rfl) | (rw [if_neg (by decide +kernel)]; exact ⟨rfl, rfl⟩))
    (fun os started H enc _ => lifted os started H enc)

theorem proved : Rows.BagOrderSaid := over
end Go.Proofs.Ytofachfbphinaaa.bagOrder
