/- The law returns true for every input, and its arguments read afterwards as they read before. Conditions: none. -/
import Derived.Test.YtnhiohgcoifniaaL8
namespace Go.Proofs.Ytnhiohgcoifniaa.heapAll
open Go.ChangeShapes Go.WideShapes Go.ChangeAt Go.RowKit Go.Gav Go.BigFrame Go.Shelf
open Go.ChangeMaps (open_string shut_string)
set_option linter.unusedVariables false

set_option maxRecDepth 100000 in
theorem big (a : Option Addr) (len cap : Nat) (st : Int) (w : World) (h : 200 < len) :
    Calls Try.prog 7 #[.slice a len cap, .int .u8 st] w fun e w' => e = .returned (.bool true) ∧ Only (fun _ => False) w w' := by
  have hg1 : ((len : Int) > 200) := by omega
  go_enter Try.func7, Try.ntmps7
  go_wp2_with (fail)
  have oA : Only (fun _ => False) w ((w.alloc (Obj.cells #[Value.int IntKind.u8 st] 5)).alloc (Obj.cells #[Value.bool false] 4)) := ((Only.refl _ _).alloc _).alloc _
  refine (awake_true _).mono ?_
  rintro _ w1 ⟨rfl, o1⟩
  have K := Lib.hid (o1.keep (heap_alloc2_new w (Obj.cells #[Value.int IntKind.u8 st] 5) (Obj.cells #[Value.bool false] 4)) id)
  have O1 := Lib.hid (oA.trans o1 (fun _ _ h => h))
  clear o1 oA
  go_wp2_with (fail)
  refine (awake_true _).mono ?_
  rintro _ w2 ⟨rfl, o2⟩
  have k4 := o2.keep K.out id
  have c4 := cell_of_one k4
  have f4 := free_of_one k4
  have K4 := Lib.hid k4
  have O2 := Lib.hid (O1.out.trans o2 (fun _ _ h => h))
  clear o2 k4
  go_wp2
  have e5 := one_setCell (u := .bool true) K4.out
  refine bodyPost_ret (results_cell_one rfl _ _ ⟨w.heap.size + 1, 0, none⟩ _ _ rfl (cell_of_one e5) Try.underlying4 rfl) rfl ?_
  exact ⟨rfl, O2.out.setCell (p := ⟨w.heap.size + 1, 0, none⟩) (.inr (Nat.le_succ _)) _⟩

theorem walk (a : Option Addr) (len cap : Nat) (D : Nat → Int) (X : Nat → Int × Int) (st : Int) (w : World) (hl : IsActs w a len D X) (hc : (Lit.int .u8 st).wf = true) :
    Calls Try.prog 7 #[.slice a len cap, .int .u8 st] w fun e w' => e = .returned (.bool true) ∧ Below w.heap.size w w' := by
  have fin : ∀ (e : Ending) (w' : World), (e = .returned (.bool true) ∧ Only (fun _ => False) w w') → e = .returned (.bool true) ∧ Below w.heap.size w w' :=
    fun e w' ⟨he, ho⟩ => ⟨he, ho.below (Nat.le_refl _) (fun _ h => h.elim)⟩
  have hb := bounds_u8 hc
  by_cases h1 : len ≤ 200
  · exact (all_walk a len cap D X st hb.1 hb.2 w hl h1).mono fin
  · exact (big a len cap st w (by omega)).mono fin

set_option maxRecDepth 100000 in
theorem lifted (os : Os) (started : os.Started) (H : Type) (enc : TypeId × Value → H) :
    ReturnsInHanded {} Try.checked os 7 .any (Rows.heapAllSpec.pre6 enc Try.prog Try.f7 Rows.heapAllRow.domain false) (Rows.heapAllSpec.post enc Try.prog Try.f7 false true false false) := by
  refine returnsInHanded_of_change (C := Try.checked) own started (by kernel_rfl) Try.func7
    (ChangeSpec.witness6 (enc := enc) (C := Try.checked) false ⟨#[], #[.slice none 0 0, .int .u8 0], []⟩ 8 (by kernel_rfl) (by kernel_rfl) (by kernel_rfl) (by kernel_rfl)) ?_
  intro W base args ds gs before hval0 hW hcnd _
  have hval : ∀ (j : Nat) t v, Try.f7.params[j]? = some t → args[j]? = some v → Value.okWide Try.prog W .any base t v := hval0
  have hW' := hW
  obtain ⟨p, q, hA0, hV, rfl, hfz, hnd⟩ := hW
  have hA : DataW.TrodAll enc Try.prog W 0 (fun _ => true) true Try.f7.params.toList args.toList ds p := hA0
  rw [Try.params7] at hA hval
  obtain ⟨v0, vs0, d0, ds0, p0, q0, hargs, rfl, rfl, h0, r0⟩ := trodAll_cons hA
  obtain ⟨v1, vs1, d1, ds1, p1, q1, rfl, rfl, rfl, h1, r1⟩ := trodAll_cons r0
  obtain ⟨rfl, rfl, rfl⟩ := trodAll_nil r1
  obtain rfl : args = #[v0, v1] := by cases args; simp_all
  obtain ⟨rfl, rfl⟩ := trodVars_none hV
  obtain ⟨a0, len0, cap0, rfl⟩ := okWide_slice Try.underlying22 (hval 0 22 v0 rfl rfl)
  have k0 := h0
  have lt0 : ∀ x ∈ p0, x.block < W.heap.size := by obtain ⟨m, hm⟩ := k0; exact DataW.trod_lt m _ _ _ hm
  obtain ⟨D0, X0, hl0⟩ : ∃ D X, IsActs W a0 len0 D X := by
    obtain ⟨fuel, hf⟩ := h0
    exact open_acts hf
  obtain ⟨a1, rfl, rfl, rfl, w1⟩ := open_int Try.underlying5 (hval 1 5 v1 rfl rfl) h1
  clear hA0 hval0
  refine (walk a0 len0 cap0 D0 X0 a1 W hl0 w1).mono fun e W' ⟨he, bel⟩ => ?_
  subst he
  exact ⟨_, rfl, _, _, _, [], _, [], hW', trodAll_mk1 (shut_bool Try.underlying4 _), (trodAll_cons_mk (Below.trod laidOut (by kernel_rfl) (of_decide_eq_true (by kernel_rfl)) k0 bel lt0) (trodAll_cons_mk (shut_int Try.underlying5 w1) trodAll_mk0)), rfl, bel.frame _, fun h => by cases h⟩

theorem over : Rows.heapAllRow.holds Try.pinned (OpenSpec.ofChange Rows.heapAllSpec) :=
  OpenClaim.holds_of_wide 7 Try.f7 rfl rfl rfl rfl rfl rfl rfl ⟨rfl, rfl, rfl, rfl, rfl⟩ rfl rfl rfl rfl rfl (by kernel_rfl) Try.func7 (by kernel_rfl)
    (of_decide_eq_true (by kernel_rfl)) (by unfold Func.isWrapper; first | (rw [if_pos (by decide +kernel)]; kernel_rfl) | (rw [if_neg (by decide +kernel)]; exact ⟨rfl, rfl⟩))
    (fun os started H enc _ => lifted os started H enc)

theorem proved : Rows.HeapAllSaid := over
end Go.Proofs.Ytnhiohgcoifniaa.heapAll
