/- The contract of swap. -/
import Derived.Test.YtnhiohgcoifniaaH3
namespace Go.Proofs.Ytnhiohgcoifniaa
open Go.RowKit Go.Gav Go.BigFrame
open Go.Maps (Tidy IsMap)

theorem small64 (j : Nat) (h : j < 100000) : I64 (j : Int) := by
  unfold I64
  simp only [Lit.wf, Bool.and_eq_true, decide_eq_true_eq, IntKind.min, IntKind.max]
  constructor <;> first | (simp [IntKind.signed, IntKind.bits]; omega) | (simp [IntKind.signed, IntKind.bits]; done)

theorem zero3 (w : World) : (zeroValue 3).run Try.prog w = .ok (.int .i64 0) w := by kernel_rfl

set_option maxRecDepth 100000 in
set_option maxHeartbeats 2000000 in
theorem h_swap (hb lb mb : Nat) (L : List En) (D : DataW Unit) (v : Value) (w : World) (h : HAt w hb lb mb L D v) (i k : Nat) (hi : i < L.length) (hk : k < L.length) :
    Calls Try.prog 30 #[.pointer (some ⟨hb, 0, none⟩), .int .i64 i, .int .i64 k] w fun e w' => e = .returned (.tuple #[]) ∧ HAt w' hb lb mb (swapL L i k) (swapD D L i k) v ∧ Only (fun j => j = lb ∨ j = mb) w w' := by
  obtain ⟨c0, c1, c2⟩ := three_cells h.head
  obtain ⟨cap, rfl, hcap, hm, hfz, hlt, hc⟩ := h.row.some (by omega)
  obtain ⟨d0, d1⟩ := hc i hi
  obtain ⟨e0, e1⟩ := hc k hk
  have f0 := hfz (i * 2)
  have f1 := hfz (i * 2 + 1)
  have g0 := hfz (k * 2)
  have g1 := hfz (k * 2 + 1)
  obtain ⟨n, hn⟩ : ∃ n, n = L.length := ⟨_, rfl⟩
  rw [← hn] at c1 
  have hi' : i < n := by omega
  have hk' : k < n := by omega
  obtain ⟨⟨x1, x2⟩, hx⟩ : ∃ x, x = atE L i := ⟨_, rfl⟩
  obtain ⟨⟨y1, y2⟩, hy⟩ : ∃ y, y = atE L k := ⟨_, rfl⟩
  rw [← hx] at d0 d1
  rw [← hy] at e0 e1
  simp only at d0 d1 e0 e1
  have hsm : n ≤ 1000 := by rw [hn]; exact h.small
  have HH := Lib.hid h
  have HX := Lib.hid hx
  have HY := Lib.hid hy
  have HN := Lib.hid hn
  have hne : lb ≠ hb ∧ lb ≠ mb := h.far.2.1 rfl
  have HE := Lib.hid hne
  have HI := Lib.hid hi
  have HK := Lib.hid hk
  clear hc hn h hx hy c2 hfz hcap hm hne hi hk
  go_enter Try.func30, Try.ntmps30
  go_wp2
  refine wp_region_mixed [0, 4, 5, 9, 10, 14, 17, 21] [1, 2, 3, 6, 7, 8, 11, 12, 13, 15, 16, 18, 19, 20, 22, 23] 24 [25, 26, 27] (by kernel_rfl) (by kernel_rfl) (fun _ _ _ _ h => h) ?_
  simp only [pick, consO, List.getElem?_toArray, List.getElem?_cons_succ, List.getElem?_cons_zero, movesOf, moveOf]
  conv => arg 6; simp [Act.put, Act.eval]
  repeat (go_big_quiet_step (fail))
  refine wpQuiet_nil ?_
  rintro _ ⟨nq, rfl⟩
  have r1 := Lib.hid ((HH.out.only ((Only.refl (fun _ => False) w).drewN nq) id id id).row)
  go_wp2_with (first
    | (refine wpList_store_en rfl 40 (.tmp 30) (.tmp 22) rfl (by kernel_rfl) 40 lb i _ L r1.out HI.out (y1, y2) rfl rfl ?_; intro w3 row3 o3; have R3 := Lib.hid row3; clear row3)
    | (refine wpList_store_en rfl 40 (.tmp 31) (.tmp 29) rfl (by kernel_rfl) 40 lb k _ _ R3.out (by rw [List.length_set]; exact HK.out) (x1, x2) rfl rfl ?_; intro w4 row4 o4; have R4 := Lib.hid row4; clear row4))
  have hsw : (L.set i (y1, y2)).set k (x1, x2) = swapL L i k := by unfold swapL; rw [HX.out, HY.out]
  have R5 := R4.out
  rw [hsw] at R5
  have O4 : Hid (Only (fun j => j = lb) w w4) := ((((Only.refl (fun j => j = lb) w).drewN nq).trans o3 (fun _ _ h => h)).trans o4 (fun _ _ h => h))
  have h4 : w4.heap[hb]? = _ := O4.out.keep HH.out.head (fun e => HE.out.1 e.symm)
  obtain ⟨a0, a1, a2⟩ := three_cells h4
  rw [← HN.out] at a1
  obtain ⟨cap', hv', -, -, -, -, hc'⟩ := R5.some (by rw [swapL_length]; have := HI.out; omega)
  obtain ⟨b0, -⟩ := hc' i (by rw [swapL_length]; exact HI.out)
  obtain ⟨b1, -⟩ := hc' k (by rw [swapL_length]; exact HK.out)
  rw [swapL_i L i k HI.out HK.out, ← HY.out] at b0
  rw [swapL_k L i k HI.out HK.out, ← HX.out] at b1
  simp only at b0 b1
  have H4 := Lib.hid h4
  have R5' := Lib.hid R5
  clear c0 c1 d0 d1 e0 e1 f0 f1 g0 g1 R3 R4 r1 hsw h4 o3 o4 hc' hv' R5 hlt
  simp only [Act.put]
  go_wp2
  refine wp_region_mixed [0, 4, 8, 12, 16, 20, 24, 25] [1, 2, 3, 5, 6, 7, 9, 10, 11, 13, 14, 15, 17, 18, 19, 21, 22, 23] 26 [27, 28, 29, 30, 31] (by kernel_rfl) (by kernel_rfl) (fun _ _ _ _ h => h) ?_
  simp only [pick, consO, List.getElem?_toArray, List.getElem?_cons_succ, List.getElem?_cons_zero, movesOf, moveOf]
  conv => arg 6; simp [Act.put, Act.eval]
  repeat (go_big_quiet_step (fail))
  refine wpQuiet_nil ?_
  rintro _ ⟨nq2, rfl⟩
  have M4 : (w4.drewN nq2).ownsMap Try.prog 3 (plainElem Try.prog 3) mb L.length D := by
    obtain ⟨es, clock, hm, r⟩ := HH.out.map
    exact ⟨es, clock, O4.out.keep hm (fun e => HE.out.2 e.symm), r⟩
  have hyr : I64 y1 := by have := HH.out.idx.range k HK.out; rw [← HY.out] at this; exact this
  have hxr : I64 x1 := by have := HH.out.idx.range i HI.out; rw [← HX.out] at this; exact this
  have hyh : Go.Maps.has D (.int .i64 y1) = true := by have := HH.out.idx.has k HK.out; rw [← HY.out] at this; exact this
  have hxh : Go.Maps.has D (.int .i64 x1) = true := by have := HH.out.idx.has i HI.out; rw [← HX.out] at this; exact this
  have hsz := HH.out.small
  have hsz2 := HH.out.idx.size
  have htd : Tidy D := M4.tidy keyed
  have hi64 : ∀ j, j < L.length → I64 (j : Int) := fun j hj => small64 j (by omega)
  obtain ⟨v0, st, m1, m2⟩ := entry_there M4 keyed Try.underlying61 (zero3 _) (by unfold maxLen; omega) (Go.Maps.keyOf_int_mk Try.underlying3 hyr) hyh
  obtain ⟨w5, m3, m4, t5⟩ := m2 (.int .i64 i) _ _ (plainElem_int Try.underlying3 (hi64 i HI.out))
  have M5 := ownsMap_tight m4
  have hsd : Go.Maps.size (D.put (.int .i64 y1) (.lit (.int .i64 i))) = L.length := by rw [Go.Maps.size_put htd, hyh, if_pos rfl, hsz2]
  rw [hsd] at M5
  have hxh2 : Go.Maps.has (D.put (.int .i64 y1) (.lit (.int .i64 i))) (.int .i64 x1) = true := by rw [has_put htd.isMap, hxh]; simp
  obtain ⟨v1, st', n1, n2⟩ := entry_there M5 keyed Try.underlying61 (zero3 _) (by unfold maxLen; omega) (Go.Maps.keyOf_int_mk Try.underlying3 hxr) hxh2
  obtain ⟨w6, n3, n4, t6⟩ := n2 (.int .i64 k) _ _ (plainElem_int Try.underlying3 (hi64 k HK.out))
  have M6 := ownsMap_tight n4
  have hsd2 : Go.Maps.size ((D.put (.int .i64 y1) (.lit (.int .i64 i))).put (.int .i64 x1) (.lit (.int .i64 k))) = L.length := by rw [Go.Maps.size_put (htd.put (isKey _) _), hxh2, if_pos rfl, hsd]
  rw [hsd2] at M6
  have M6' := Lib.hid M6
  have T5 := Lib.hid t5
  have T6 := Lib.hid t6
  have HTD := Lib.hid htd
  simp only [goInt] at m1 m3 n1 n3
  clear M6 t5 t6 m2 m4 n2 n4 M4 M5 hyr hxr hyh hxh hsz hsz2 hi64 hsd hxh2 hsd2 htd
  go_wp2_with (fail)
  go_end0
  have o6 : Only (fun j => j = mb) w4 w6 := (((Only.refl (fun j => j = mb) w4).drewN nq2).grown T5.out.grown (fun k hk => .inl (by cases hk; rfl))).grown T6.out.grown (fun k hk => .inl (by cases hk; rfl))
  have hfar := HH.out.far
  refine ⟨rfl, ⟨o6.keep H4.out hfar.1, R5'.out.only o6 (fun _ => HE.out.2), ?_, HH.out.idx.swap HTD.out HI.out HK.out, ⟨hfar.1, hfar.2.1, ?_⟩, by rw [swapL_length]; exact HH.out.small⟩, ?_⟩
  · rw [swapL_length]
    unfold swapD
    rw [swapL_i L i k HI.out HK.out, swapL_k L i k HI.out HK.out, ← HX.out, ← HY.out]
    exact M6'.out
  · have := hfar.2.2; have := O4.out.size; have := o6.size; omega
  · exact (O4.out.mono (fun _ h => .inl h)).trans o6 (fun _ _ h => .inr h)

end Go.Proofs.Ytnhiohgcoifniaa
