/- The law QueueCopies returns true for every room and every two lists of acts, which read afterwards as before. Conditions: none. -/
import Derived.Test.YtflcdbefakjcbaaL4
namespace Go.Proofs.Ytflcdbefakjcbaa.queueCopies
open Go.ChangeShapes Go.WideShapes Go.ChangeAt Go.RowKit Go.Gav Go.BigFrame Go.Shelf
open Go.ChangeMaps (open_string shut_string)
set_option linter.unusedVariables false

theorem big (r : Int) (a a' : Option Addr) (len cap len' cap' : Nat) (w : World) (h : 300 < len ∨ (len ≤ 300 ∧ 300 < len')) :
    Calls Try.prog 6 #[.int .u8 r, .slice a len cap, .slice a' len' cap'] w fun e w' => e = .returned (.bool true) ∧ Only (fun _ => False) w w' := by
  rcases h with h | ⟨h, h'⟩
  all_goals
    go_enter Try.func6, Try.ntmps6
    go_wp2_with (fail)
    refine (awake_true _).mono ?_
    rintro e w1 ⟨rfl, o1⟩
    have O1 := Lib.hid o1
    clear o1
    go_wp2_with (fail)
    refine (awake_true _).mono ?_
    rintro e w2 ⟨rfl, o2⟩
    have O2 := Lib.hid o2
    clear o2
    go_wp2
    go_ret
    exact ⟨rfl, O1.out.trans O2.out (fun _ _ h => h)⟩

theorem walk (r : Int) (a : Option Addr) (len cap : Nat) (D X : Nat → Int) (a' : Option Addr) (len' cap' : Nat) (D' X' : Nat → Int) (w : World) (hr : (Lit.int .u8 r).wf = true) (hl : IsActs w a len D X) (hl' : IsActs w a' len' D' X') :
    Calls Try.prog 6 #[.int .u8 r, .slice a len cap, .slice a' len' cap'] w fun e w' => e = .returned (.bool true) ∧ Below w.heap.size w w' := by
  have fin : ∀ (e : Ending) (w' : World), (e = .returned (.bool true) ∧ Only (fun _ => False) w w') → e = .returned (.bool true) ∧ Below w.heap.size w w' :=
    fun e w' ⟨he, ho⟩ => ⟨he, ho.below (Nat.le_refl _) (fun _ h => h.elim)⟩
  have b := bounds_u8 hr
  by_cases h1 : len ≤ 300
  · by_cases h2 : len' ≤ 300
    · exact (copies_walk r b.1 b.2 a a' len cap len' cap' D X D' X' w hl hl' h1 h2).mono fin
    · exact (big r a a' len cap len' cap' w (.inr ⟨h1, by omega⟩)).mono fin
  · exact (big r a a' len cap len' cap' w (.inl (by omega))).mono fin

set_option maxRecDepth 100000 in
theorem lifted (os : Os) (started : os.Started) (H : Type) (enc : TypeId × Value → H) :
    ReturnsInHanded {} Try.checked os 6 .any (Rows.queueCopiesSpec.pre6 enc Try.prog Try.f6 Rows.queueCopiesRow.domain false) (Rows.queueCopiesSpec.post enc Try.prog Try.f6 false true false false) := by
  refine returnsInHanded_of_change (C := Try.checked) own started (by kernel_rfl) Try.func6
    (ChangeSpec.witness6 (enc := enc) (C := Try.checked) false ⟨#[], #[.int .u8 0, .slice none 0 0, .slice none 0 0], []⟩ 8 (by kernel_rfl) (by kernel_rfl) (by kernel_rfl) (by kernel_rfl)) ?_
  intro W base args ds gs before hval0 hW hcnd _
  have hval : ∀ (j : Nat) t v, Try.f6.params[j]? = some t → args[j]? = some v → Value.okWide Try.prog W .any base t v := hval0
  have hW' := hW
  obtain ⟨p, q, hA0, hV, rfl, hfz, hnd⟩ := hW
  have hA : DataW.TrodAll enc Try.prog W 0 (fun _ => true) true Try.f6.params.toList args.toList ds p := hA0
  rw [Try.params6] at hA hval
  obtain ⟨v0, vs0, d0, ds0, p0, q0, hargs, rfl, rfl, h0, r0⟩ := trodAll_cons hA
  obtain ⟨v1, vs1, d1, ds1, p1, q1, rfl, rfl, rfl, h1, r1⟩ := trodAll_cons r0
  obtain ⟨v2, vs2, d2, ds2, p2, q2, rfl, rfl, rfl, h2, r2⟩ := trodAll_cons r1
  obtain ⟨rfl, rfl, rfl⟩ := trodAll_nil r2
  obtain rfl : args = #[v0, v1, v2] := by cases args; simp_all
  obtain ⟨rfl, rfl⟩ := trodVars_none hV
  obtain ⟨a0, rfl, rfl, rfl, w0⟩ := open_int Try.underlying5 (hval 0 5 v0 rfl rfl) h0
  obtain ⟨a1, len1, cap1, rfl⟩ := okWide_slice Try.underlying22 (hval 1 22 v1 rfl rfl)
  have k1 := h1
  have lt1 : ∀ x ∈ p1, x.block < W.heap.size := by obtain ⟨m, hm⟩ := k1; exact DataW.trod_lt m _ _ _ hm
  obtain ⟨D1, X1, hl1⟩ : ∃ D X, IsActs W a1 len1 D X := by
    obtain ⟨fuel, hf⟩ := h1
    exact open_acts hf
  obtain ⟨a2, len2, cap2, rfl⟩ := okWide_slice Try.underlying22 (hval 2 22 v2 rfl rfl)
  have k2 := h2
  have lt2 : ∀ x ∈ p2, x.block < W.heap.size := by obtain ⟨m, hm⟩ := k2; exact DataW.trod_lt m _ _ _ hm
  obtain ⟨D2, X2, hl2⟩ : ∃ D X, IsActs W a2 len2 D X := by
    obtain ⟨fuel, hf⟩ := h2
    exact open_acts hf
  clear hA0 hval0
  refine (walk a0 a1 len1 cap1 D1 X1 a2 len2 cap2 D2 X2 W w0 hl1 hl2).mono fun e W' ⟨he, bel⟩ => ?_
  subst he
  exact ⟨_, rfl, _, _, _, [], _, [], hW', trodAll_mk1 (shut_bool Try.underlying4 _), (trodAll_cons_mk (shut_int Try.underlying5 w0) (trodAll_cons_mk (Below.trod laidOut (by kernel_rfl) (of_decide_eq_true (by kernel_rfl)) k1 bel lt1) (trodAll_cons_mk (Below.trod laidOut (by kernel_rfl) (of_decide_eq_true (by kernel_rfl)) k2 bel lt2) trodAll_mk0))), rfl, bel.frame _, fun h => by cases h⟩

theorem over : Rows.queueCopiesRow.holds Try.pinned (OpenSpec.ofChange Rows.queueCopiesSpec) :=
  OpenClaim.holds_of_wide 6 Try.f6 rfl rfl rfl rfl rfl rfl rfl ⟨rfl, rfl, rfl, rfl, rfl⟩ rfl rfl rfl rfl rfl (by kernel_rfl) Try.func6 (by kernel_rfl)
    (of_decide_eq_true (by kernel_rfl)) (by unfold Func.isWrapper; first | (rw [if_pos (by decide +kernel)]; kernel_rfl) | (rw [if_neg (by decide +kernel)]; exact ⟨rfl, rfl⟩))
    (fun os started H enc _ => lifted os started H enc)

theorem proved : Rows.QueueCopiesSaid := over
end Go.Proofs.Ytflcdbefakjcbaa.queueCopies
