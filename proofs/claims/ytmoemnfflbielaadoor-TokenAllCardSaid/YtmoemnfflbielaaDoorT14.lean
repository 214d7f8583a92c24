/- The walk of the law TokenAll: it returns true. -/
import Derived.Test.YtmoemnfflbielaaDoorT11
namespace Go.Proofs.YtmoemnfflbielaaDoor
open Go.RowKit Go.Gav Go.BigFrame Go.Shelf
attribute [local go_sem] Oper.semAt_some

theorem itemsF_err {s : ByteArray} : ∀ (f k : Nat) (x : Tok × Nat), x ∈ itemsF s f k → x.2 ≠ 0 → x.1 = ⟨0, ByteArray.empty, 0, x.1.At⟩
  | 0, _, x, h, _ => by simp [itemsF] at h
  | f + 1, k, x, h, he => by
    rw [itemsF] at h
    split at h
    · obtain rfl : x = _ := by simpa using h
      rfl
    · split at h
      · obtain rfl : x = _ := by simpa using h
        exact absurd rfl he
      · rcases List.mem_cons.1 h with rfl | h
        · exact absurd rfl he
        · exact itemsF_err f _ x h he

theorem items_errS {s : ByteArray} {x : Tok × Nat} (h : x ∈ items s) (he : x.2 ≠ 0) : x.1 = ⟨0, ByteArray.empty, 0, x.1.At⟩ := by
  unfold items at h
  split at h
  · obtain rfl : x = _ := by simpa using h
    rfl
  · exact itemsF_err _ _ x h he

theorem itemsF_ne (s : ByteArray) (f k : Nat) : itemsF s (f + 1) k ≠ [] := by
  rw [itemsF]
  split
  · simp
  · split <;> simp

theorem items_ne (s : ByteArray) : items s ≠ [] := by
  unfold items
  split
  · simp
  · exact itemsF_ne s _ _

/-- What Scan answers, by what is handed out. -/
theorem scan_hit {s : ByteArray} {i : Nat} (hi : i < (items s).length) (hn : ∀ x ∈ (items s).take i, (x.2 != 0) = false) (he : (items s)[i].2 ≠ 0) : scanR s = ([], (items s)[i].1.At, (items s)[i].2) := by
  unfold scanR
  rw [find_at (items s) i hi hn (by simpa using he)]

theorem scan_none {s : ByteArray} (hn : ∀ x ∈ items s, (x.2 != 0) = false) : scanR s = ((items s).map (·.1), 0, 0) := by
  unfold scanR
  rw [List.find?_eq_none.2 (fun x hx => by rw [hn x hx]; simp)]

theorem scan_ok {s : ByteArray} (he : (scanR s).2.2 = 0) : (scanR s).1 = (items s).map (·.1) ∧ ∀ x ∈ items s, (x.2 != 0) = false := by
  cases hq : (items s).find? (fun x => x.2 != 0) with
  | some x =>
    unfold scanR at he
    rw [hq] at he
    have := List.find?_some hq
    simp only at he
    simp [he] at this
  | none =>
    rw [List.find?_eq_none] at hq
    have hn : ∀ x ∈ items s, (x.2 != 0) = false := fun x hx => by simpa using hq x hx
    exact ⟨by rw [scan_none hn], hn⟩

set_option maxRecDepth 100000 in
theorem all_big (s : ByteArray) (st : Int) (hbig : 30000 < s.size) (w : World) (hm : MarksAt w) :
    Calls Tryd.prog 5 #[.string s, .int .u8 st] w fun e w' => e = .returned (.bool true) ∧ Only (fun _ => False) w w' := by
  have HM := Lib.hid hm
  clear hm
  go_enter Tryd.func5, Tryd.ntmps5
  go_wp2_with (fail)
  have oA : Only (fun _ => False) w ((w.alloc (Obj.cells #[Value.int IntKind.u8 st] 5)).alloc (Obj.cells #[Value.bool false] 4)) := ((Only.refl _ _).alloc _).alloc _
  refine (awake_true _ (HM.out.only oA id)).mono ?_
  rintro _ w1 ⟨rfl, o1⟩
  have K := Lib.hid (o1.keep (heap_alloc2_new w (Obj.cells #[Value.int IntKind.u8 st] 5) (Obj.cells #[Value.bool false] 4)) id)
  have O1 := Lib.hid (oA.trans o1 (fun _ _ h => h))
  have HM1 := Lib.hid (HM.out.only O1.out id)
  clear o1 oA HM
  have hb : (30000 : Int) < (s.size : Int) := by omega
  go_wp2_with (fail)
  refine (awake_true _ HM1.out).mono ?_
  rintro _ w2 ⟨rfl, o2⟩
  have k4 := o2.keep K.out id
  have c4 := cell_of_one k4
  have f4 := free_of_one k4
  have K4 := Lib.hid k4
  have O2 := Lib.hid (O1.out.trans o2 (fun _ _ h => h))
  clear o2 k4
  go_wp2
  have e5 := one_setCell (u := .bool true) K4.out
  refine bodyPost_ret (results_cell_one rfl _ _ ⟨w.heap.size + 1, 0, none⟩ _ _ rfl (cell_of_one e5) Tryd.underlying4 rfl) rfl ?_
  exact ⟨rfl, O2.out.setCell (p := ⟨w.heap.size + 1, 0, none⟩) (.inr (Nat.le_succ _)) _⟩

set_option maxRecDepth 100000 in
set_option maxHeartbeats 4000000 in
theorem all_walk (s : ByteArray) (st : Int) (hst : 0 ≤ st) (hst2 : st ≤ 255) (hs : s.size ≤ 30000) (w : World) (hm : MarksAt w) :
    Calls Tryd.prog 5 #[.string s, .int .u8 st] w fun e w' => e = .returned (.bool true) ∧ Only (fun _ => False) w w' := by
  have HM := Lib.hid hm
  have hw0 : 0 < w.heap.size := World.block_lt_of_cell? w _ (hm 0 _ rfl)
  clear hm
  refine callsIn_wide.1 (callsIn_of_wp_marks (F := Fence.wide) (n := 0) Tryd.func5 rfl trivial ?_)
  simp only [Tryd.ntmps5, List.size_toArray, List.length_cons, List.length_nil, Nat.reduceAdd, Nat.reduceSub, Array.replicate_succ, Array.replicate_zero, List.push_toArray, List.append_toArray, List.nil_append, List.cons_append]
  refine wpIn_wide.2 ?_
  go_wp2_with (fail)
  have oA : Only (fun _ => False) w ((w.alloc (Obj.cells #[Value.int IntKind.u8 st] 5)).alloc (Obj.cells #[Value.bool false] 4)) := ((Only.refl _ _).alloc _).alloc _
  refine (awake_true _ (HM.out.only oA id)).mono ?_
  rintro _ w1 ⟨rfl, o1⟩
  have k3 : w1.heap[w.heap.size]? = some (.cells #[.int .u8 st] 5 (0, 0)) := o1.keep (hp_alloc (heap_alloc_new w _) _) id
  have k4 : w1.heap[w.heap.size + 1]? = some (.cells #[.bool false] 4 (0, 0)) := o1.keep (heap_alloc2_new w _ _) id
  have K := Lib.hid (And.intro k3 k4)
  have O1 := Lib.hid (oA.trans o1 (fun _ _ h => h))
  have HM1 := Lib.hid (HM.out.only O1.out id)
  have hsz1 : w.heap.size + 2 ≤ w1.heap.size := by have := o1.size; simp at this; omega
  clear o1 oA k3 k4 HM
  have hb : ¬ ((30000 : Int) < (s.size : Int)) := by omega
  have hlen := items_length s
  have HITN := Lib.hid (fun (he : (scanR s).2.2 = 0) => scan_ok he)
  have HSC := Lib.hid (scan_at s (by omega) w1 HM1.out)
  obtain ⟨⟨ts, a, er⟩, hr⟩ : ∃ r, r = scanR s := ⟨_, rfl⟩
  rw [← hr] at HSC HITN
  simp only at HSC HITN
  have HR := Lib.hid hr
  clear hr
  go_wp2_with (fail)
  refine HSC.out.mono ?_
  rintro _ w2 ⟨v, rfl, hown, o2⟩
  have RD := Lib.hid (ReadT.of_owns hown).2
  have k3 := o2.keep K.out.1 id
  have k4 := o2.keep K.out.2 id
  have O2 := Lib.hid (O1.out.trans o2 (fun _ _ h => h))
  have HM2 := Lib.hid (HM1.out.only o2 id)
  have hsz2 : w.heap.size + 2 ≤ w2.heap.size := by have := o2.size; omega
  obtain ⟨ao, vn, vc, rfl⟩ : ∃ ao n c, v = .slice ao n c := by
    obtain ⟨ao, c, h, _⟩ := RD.out
    exact ⟨ao, _, c, h⟩
  have K2 := Lib.hid (And.intro k3 k4)
  clear hown o2 k3 k4 K O1 HM1 hsz1 HSC
  go_wp2_with (fail)
  refine (all_call s _).mono ?_
  rintro _ w3 ⟨rfl, hw3⟩
  have oB : Only (fun _ => False) w2 w3 := by rw [hw3]; exact (((((Only.refl _ _).alloc _).alloc _).alloc _).alloc _).alloc _
  have hs3 : w3.heap.size = w2.heap.size + 5 := by rw [hw3]; simp
  have k5 : w3.heap[w2.heap.size]? = some (.cells #[.slice ao vn vc] 23 (0, 0)) := by
    rw [hw3]; exact hp_alloc (hp_alloc (hp_alloc (hp_alloc (heap_alloc_new w2 _) _) _) _) _
  have k6 : w3.heap[w2.heap.size + 1]? = some (.cells #[.int .i64 a] 3 (0, 0)) := by
    rw [hw3]; exact hp_alloc (hp_alloc (hp_alloc (heap_alloc2_new w2 _ _) _) _) _
  have k7 : w3.heap[w2.heap.size + 2]? = some (.cells #[.int .i64 er] 24 (0, 0)) := by
    have h := heap_alloc_new ((w2.alloc (Obj.cells #[Value.slice ao vn vc] 23)).alloc (Obj.cells #[Value.int IntKind.i64 a] 3)) (Obj.cells #[Value.int IntKind.i64 er] 24)
    simp only [World.size_alloc] at h
    rw [hw3]; exact hp_alloc (hp_alloc h _) _
  have k8 : w3.heap[w2.heap.size + 3]? = some (.cells #[.int .i64 0] 3 (0, 0)) := by
    have h := heap_alloc_new (((w2.alloc (Obj.cells #[Value.slice ao vn vc] 23)).alloc (Obj.cells #[Value.int IntKind.i64 a] 3)).alloc (Obj.cells #[Value.int IntKind.i64 er] 24)) (Obj.cells #[Value.int IntKind.i64 0] 3)
    simp only [World.size_alloc] at h
    rw [hw3]; exact hp_alloc h _
  have k9 : w3.heap[w2.heap.size + 4]? = some (.cells #[.string s] 9 (0, 0)) := by
    have h := heap_alloc_new ((((w2.alloc (Obj.cells #[Value.slice ao vn vc] 23)).alloc (Obj.cells #[Value.int IntKind.i64 a] 3)).alloc (Obj.cells #[Value.int IntKind.i64 er] 24)).alloc (Obj.cells #[Value.int IntKind.i64 0] 3)) (Obj.cells #[Value.string s] 9)
    simp only [World.size_alloc] at h
    rw [hw3]; exact h
  have k3 := oB.keep K2.out.1 id
  have k4 := oB.keep K2.out.2 id
  have HM3 := HM2.out.only oB id
  have OB := Lib.hid (oB.mono (S' := fun k => k = w2.heap.size + 3) (fun _ h => h.elim))
  have q1 := all_iter (w2.heap.size + 4) s (by omega) w3 (cell_of_one k9) HM3
  have HS3 := Lib.hid hs3
  have O3 := Lib.hid (O2.out.trans oB (fun _ _ h => h))
  obtain ⟨xs, hxs⟩ : ∃ xs, xs = items s := ⟨_, rfl⟩
  rw [← hxs] at q1 hlen HITN
  have HXS := Lib.hid hxs
  clear hw3 hs3 oB HM2 HM3 k9 hxs K2 O2
  go_wp2_with (fail)
  refine wp_rangeS (gf := 17) (lb := #[.pointer (some ⟨w2.heap.size + 4, 0, none⟩)]) rfl (enters_of Tryd.func17 (by kernel_rfl) rfl) (fun k hk => by have := HS3.out; omega) q1 (fun x => rfl) ?_
  intro W0 hW0 hs0
  have hwW : w2.heap.size + 7 ≤ W0.heap.size := by have := HS3.out; omega
  refine ⟨fun i W => i ≤ xs.length ∧ (∀ x ∈ xs.take i, (x.2 != 0) = false) ∧ (W.heap[w.heap.size]? = some (.cells #[.int .u8 st] 5 (0, 0)) ∧ W.heap[w.heap.size + 1]? = some (.cells #[.bool false] 4 (0, 0)) ∧ W.heap[w2.heap.size]? = some (.cells #[.slice ao vn vc] 23 (0, 0)) ∧
      W.heap[w2.heap.size + 1]? = some (.cells #[.int .i64 a] 3 (0, 0)) ∧ W.heap[w2.heap.size + 2]? = some (.cells #[.int .i64 er] 24 (0, 0)) ∧ W.heap[w2.heap.size + 3]? = some (.cells #[.int .i64 i] 3 (0, 0))) ∧ W0.heap.size ≤ W.heap.size ∧ Only (fun k => k = w2.heap.size + 3) w3 W,
    fun c W => c = .ret ∧ W.heap[w.heap.size + 1]? = some (.cells #[.bool true] 4 (0, 0)) ∧ Only (fun k => k = w.heap.size + 1 ∨ k = w2.heap.size + 3) w3 W, ?_, ?_, ?_, ?_, ?_, ?_⟩
  · exact ⟨Nat.zero_le _, fun x hx => by simp at hx, ⟨hW0.keep k3 id, hW0.keep k4 id, hW0.keep k5 id, hW0.keep k6 id, hW0.keep k7 id, hW0.keep k8 id⟩, Nat.le_refl _, hW0.mono (fun _ h => h.elim)⟩
  · rintro i W1 W2 ⟨h1, hn, ⟨g3, g4, g5, g6, g7, g8⟩, h4, h5⟩ ho
    have hz := HS3.out
    have hk : ∀ k, k < w2.heap.size + 5 → ¬ Span w3.heap.size W0.heap.size k := fun k hk h => by have := h.1; omega
    exact ⟨h1, hn, ⟨ho.keep g3 (hk _ (by omega)), ho.keep g4 (hk _ (by omega)), ho.keep g5 (hk _ (by omega)), ho.keep g6 (hk _ (by omega)), ho.keep g7 (hk _ (by omega)), ho.keep g8 (hk _ (by omega))⟩, by have := ho.size; omega, h5.trans ho (fun j hj h => by have := h.1; omega)⟩
  · rintro c W1 W2 ⟨h1, g4, h5⟩ ho
    have hz := HS3.out
    have hk : ∀ k, k < w2.heap.size + 5 → ¬ Span w3.heap.size W0.heap.size k := fun k hk h => by have := h.1; omega
    exact ⟨h1, ho.keep g4 (hk _ (by omega)), h5.trans ho (fun j hj h => by have := h.1; omega)⟩
  · rintro l i hil Wp W ⟨h1, hn, ⟨g3, g4, g5, g6, g7, g8⟩, h4, h5⟩ hoP
    have hz := HS3.out
    have hk : ∀ k, k < w2.heap.size + 5 → ¬ Span w3.heap.size W0.heap.size k := fun k hk h => by have := h.1; omega
    have hszP := hoP.size
    have hzW : W0.heap.size ≤ W.heap.size := by omega
    obtain ⟨⟨t, e⟩, hxi⟩ : ∃ xi, xi = xs[i] := ⟨_, rfl⟩
    rw [← hxi]
    simp only [encI, tokC]
    have HXI := Lib.hid hxi
    have HN := Lib.hid hn
    have G := Lib.hid (And.intro (hoP.keep g3 (hk _ (by omega))) (And.intro (hoP.keep g4 (hk _ (by omega))) (And.intro (hoP.keep g5 (hk _ (by omega))) (And.intro (hoP.keep g6 (hk _ (by omega))) (And.intro (hoP.keep g7 (hk _ (by omega))) (hoP.keep g8 (hk _ (by omega))))))))
    have H5 : Hid (Only (fun k => k = w2.heap.size + 3) w3 W) := h5.trans hoP (fun j hj h => by have := h.1; omega)
    clear hxi h5 g3 g4 g5 g6 g7 g8 hn k3 k4 k5 k6 k7 k8 q1 hoP
    gi_wp2
    have oW : Only (fun _ => False) W (W.alloc (Obj.cells #[Value.int IntKind.i64 t.kind, Value.string t.S, Value.int IntKind.i64 t.N, Value.int IntKind.i64 t.At] 28)) := (Only.refl _ _).alloc _
    refine ⟨oW.keptT (fun k hk => ⟨?_, id⟩), fun W2 ho => ?_⟩
    · rcases hk with (hk | hk) | hk | hk <;> omega
    · have hszs := ho.size
      have hszW := oW.size
      have kx : W2.heap[W.heap.size]? = some (.cells #[.int .i64 t.kind, .string t.S, .int .i64 t.N, .int .i64 t.At] 28 (0, 0)) := ho.keep (heap_alloc_new W _) (fun h => by have := h.2; omega)
      have g3 := ho.keep (oW.keep G.out.1 id) (hk _ (by omega))
      have g4 := ho.keep (oW.keep G.out.2.1 id) (hk _ (by omega))
      have g5 := ho.keep (oW.keep G.out.2.2.1 id) (hk _ (by omega))
      have g6 := ho.keep (oW.keep G.out.2.2.2.1 id) (hk _ (by omega))
      have g7 := ho.keep (oW.keep G.out.2.2.2.2.1 id) (hk _ (by omega))
      have g8 := ho.keep (oW.keep G.out.2.2.2.2.2 id) (hk _ (by omega))
      have H52 : Hid (Only (fun k => k = w2.heap.size + 3) w3 W2) := (H5.out.trans oW (fun _ _ h => h.elim)).trans ho (fun j hj h => by have := h.1; omega)
      have RD2 := Lib.hid (RD.out.only (OB.out.trans H52.out (fun j hj h => h)) (fun k hk h => by omega))
      have HSZ : Hid (W.heap.size + 1 ≤ W2.heap.size ∧ Wp.heap.size ≤ W.heap.size ∧ W0.heap.size ≤ Wp.heap.size) := ⟨by simp at hszs; omega, by omega, by omega⟩
      have c3 := cell_of_one g3
      have c4 := cell_of_one g4
      have c5 := cell_of_one g5
      have c6 := cell_of_one g6
      have c7 := cell_of_one g7
      have c8 := cell_of_one g8
      have f4 := free_of_one g4
      have f8 := free_of_one g8
      have GG := Lib.hid (And.intro g3 (And.intro g4 (And.intro g5 (And.intro g6 (And.intro g7 g8)))))
      have hm28 : Tryd.prog.eqGuardType Tryd.prog.depth 28 = false := by kernel_rfl
      by_cases he : e = 0
      · subst he
        have x0 : W2.cell? ⟨W.heap.size, 0, none⟩ = some (.int .i64 t.kind) := two_of_row kx rfl
        have x1 : W2.cell? ⟨W.heap.size, 1, none⟩ = some (.string t.S) := two_of_row kx rfl
        have x2 : W2.cell? ⟨W.heap.size, 2, none⟩ = some (.int .i64 t.N) := two_of_row kx rfl
        have x3 : W2.cell? ⟨W.heap.size, 3, none⟩ = some (.int .i64 t.At) := two_of_row kx rfl
        by_cases her : er = 0
        · have hts := HITN.out her
          have hlt : i < ts.length := by rw [hts.1, List.length_map]; exact hil
          have hti : atT ts i = t := by
            unfold atT
            rw [hts.1]
            simp [hil, ← HXI.out]
          obtain ⟨ao', vc', hv, hrd⟩ := RD2.out
          cases hv
          obtain ⟨g, rfl, hrd2⟩ := hrd (by omega)
          have hrd3 := hrd2 i hlt
          rw [hti] at hrd3
          obtain ⟨y0, y1, y2, y3⟩ := ReadT.four hrd3
          have hnq := neq_tok 28 (.inl rfl) t
          simp only [tokC] at hnq
          obtain ⟨n, hn⟩ : ∃ n, n = ts.length := ⟨_, rfl⟩
          rw [← hn] at c5 hlt
          have her0 : ((er : Int) == 0) = true := by simp [her]
          have hd1 : decide (n ≤ i) = false := by simp; omega
          clear hts hti hrd hrd2 hrd3 hn g3 g4 g5 g6 g7 g8 ho oW kx G H5 RD2 her hszs hszW
          gi_wp2
          refine wpIn_round_mixed [0, 1, 2, 3, 4, 5, 6, 7, 8, 9, 10, 11, 12, 13, 14] 15 [] (by kernel_rfl) (by kernel_rfl) ?_
          simp only [pick, consO, List.getElem?_toArray, List.getElem?_cons_succ, List.getElem?_cons_zero]
          repeat (go_big_quiet_step (fail))
          refine wpQuiet_nil ?_
          rintro _ ⟨nq, rfl⟩
          by_cases hstop : st ≤ (i : Int) + 1
          · gi_wp2
            obtain ⟨g3, g4, g5, g6, g7, g8⟩ := GG.out
            obtain ⟨z1, z2, z3⟩ := HSZ.out
            have ho4 : Only (fun k => k = w.heap.size + 1 ∨ k = w2.heap.size + 3) W2 ((W2.setCell ⟨w2.heap.size + 3, 0, none⟩ (.int .i64 ((i : Int) + 1))).setCell ⟨w.heap.size + 1, 0, none⟩ (.bool true)) :=
              ((Only.refl _ W2).setCell (p := ⟨w2.heap.size + 3, 0, none⟩) (.inl (.inr rfl)) _).setCell (p := ⟨w.heap.size + 1, 0, none⟩) (.inl (.inl rfl)) _
            refine ⟨(ho4.drewN nq).keptT (fun k hk => ⟨?_, fun h => ?_⟩), rfl, ?_, ?_⟩
            · rcases hk with (hk | hk) | hk | hk <;> omega
            · rcases hk with (hk | hk) | hk | hk <;> omega
            · have := hp_same (j := 0) (hp_other g4 (p := ⟨w2.heap.size + 3, 0, none⟩) (by show w.heap.size + 1 ≠ w2.heap.size + 3; omega) (.int .i64 ((i : Int) + 1))) (.bool true)
              exact this
            · exact (H52.out.mono (fun k h => .inr h)).trans (ho4.drewN nq) (fun j hj h => h)
          · gi_wp2
            obtain ⟨g3, g4, g5, g6, g7, g8⟩ := GG.out
            obtain ⟨z1, z2, z3⟩ := HSZ.out
            have ho4 : Only (fun k => k = w2.heap.size + 3) W2 (W2.setCell ⟨w2.heap.size + 3, 0, none⟩ (.int .i64 ((i : Int) + 1))) := Only.setAt (Only.refl _ W2) 0 _
            refine ⟨(ho4.drewN nq).keptT (fun k hk => ⟨?_, fun h => ?_⟩), by omega, ?_, ⟨ho4.keep g3 (by omega), ho4.keep g4 (by omega), ho4.keep g5 (by omega), ho4.keep g6 (by omega), ho4.keep g7 (by omega), ?_⟩, ?_, ?_⟩
            · rcases hk with (hk | hk) | hk | hk <;> omega
            · rcases hk with (hk | hk) | hk | hk <;> omega
            · have hall : ∀ x ∈ xs.take (i + 1), (x.2 != 0) = false := by
                intro x hx
                rw [List.take_succ_eq_append_getElem hil] at hx
                rcases List.mem_append.1 hx with hx | hx
                · exact HN.out x hx
                · have : x = xs[i] := by simpa using hx
                  rw [this, ← HXI.out]; rfl
              first | exact hall | simpa using hall
            · have := hp_same (j := 0) g8 (.int .i64 ((i : Int) + 1))
              exact this
            · exact Nat.le_trans (by omega) (ho4.drewN nq).size
            · exact H52.out.trans (ho4.drewN nq) (fun j hj h => h)
        · have her0 : ((er : Int) == 0) = false := by simp; omega
          clear g3 g4 g5 g6 g7 g8 ho oW kx G H5 RD2 her hszs hszW
          gi_wp2
          refine wpIn_round_mixed [0, 1, 2, 3, 4, 5, 6, 7, 8, 9, 10, 11, 12, 13, 14] 15 [] (by kernel_rfl) (by kernel_rfl) ?_
          simp only [pick, consO, List.getElem?_toArray, List.getElem?_cons_succ, List.getElem?_cons_zero]
          repeat (go_big_quiet_step (fail))
          refine wpQuiet_nil ?_
          rintro _ ⟨nq, rfl⟩
          by_cases hstop : st ≤ (i : Int) + 1
          · gi_wp2
            obtain ⟨g3, g4, g5, g6, g7, g8⟩ := GG.out
            obtain ⟨z1, z2, z3⟩ := HSZ.out
            have ho4 : Only (fun k => k = w.heap.size + 1 ∨ k = w2.heap.size + 3) W2 ((W2.setCell ⟨w2.heap.size + 3, 0, none⟩ (.int .i64 ((i : Int) + 1))).setCell ⟨w.heap.size + 1, 0, none⟩ (.bool true)) :=
              ((Only.refl _ W2).setCell (p := ⟨w2.heap.size + 3, 0, none⟩) (.inl (.inr rfl)) _).setCell (p := ⟨w.heap.size + 1, 0, none⟩) (.inl (.inl rfl)) _
            refine ⟨(ho4.drewN nq).keptT (fun k hk => ⟨?_, fun h => ?_⟩), rfl, ?_, ?_⟩
            · rcases hk with (hk | hk) | hk | hk <;> omega
            · rcases hk with (hk | hk) | hk | hk <;> omega
            · have := hp_same (j := 0) (hp_other g4 (p := ⟨w2.heap.size + 3, 0, none⟩) (by show w.heap.size + 1 ≠ w2.heap.size + 3; omega) (.int .i64 ((i : Int) + 1))) (.bool true)
              exact this
            · exact (H52.out.mono (fun k h => .inr h)).trans (ho4.drewN nq) (fun j hj h => h)
          · gi_wp2
            obtain ⟨g3, g4, g5, g6, g7, g8⟩ := GG.out
            obtain ⟨z1, z2, z3⟩ := HSZ.out
            have ho4 : Only (fun k => k = w2.heap.size + 3) W2 (W2.setCell ⟨w2.heap.size + 3, 0, none⟩ (.int .i64 ((i : Int) + 1))) := Only.setAt (Only.refl _ W2) 0 _
            refine ⟨(ho4.drewN nq).keptT (fun k hk => ⟨?_, fun h => ?_⟩), by omega, ?_, ⟨ho4.keep g3 (by omega), ho4.keep g4 (by omega), ho4.keep g5 (by omega), ho4.keep g6 (by omega), ho4.keep g7 (by omega), ?_⟩, ?_, ?_⟩
            · rcases hk with (hk | hk) | hk | hk <;> omega
            · rcases hk with (hk | hk) | hk | hk <;> omega
            · have hall : ∀ x ∈ xs.take (i + 1), (x.2 != 0) = false := by
                intro x hx
                rw [List.take_succ_eq_append_getElem hil] at hx
                rcases List.mem_append.1 hx with hx | hx
                · exact HN.out x hx
                · have : x = xs[i] := by simpa using hx
                  rw [this, ← HXI.out]; rfl
              first | exact hall | simpa using hall
            · have := hp_same (j := 0) g8 (.int .i64 ((i : Int) + 1))
              exact this
            · exact Nat.le_trans (by omega) (ho4.drewN nq).size
            · exact H52.out.trans (ho4.drewN nq) (fun j hj h => h)
      · have hhit : (ts, a, er) = ([], t.At, e) := by
          rw [HR.out]
          have hil2 : i < (items s).length := by rw [← HXS.out]; exact hil
          have hxi2 : (items s)[i] = (t, e) := by
            rw [HXI.out]; congr 1; exact HXS.out.symm
          have := scan_hit hil2 (by rw [← HXS.out]; exact HN.out) (by rw [hxi2]; exact he)
          rw [this, hxi2]
        have hterr : t = ⟨0, ByteArray.empty, 0, t.At⟩ := by
          have := items_errS (s := s) (x := (t, e)) (by rw [← HXS.out, HXI.out]; exact List.getElem_mem hil) he
          exact this
        obtain ⟨k, hk9⟩ : ∃ k, k = t.At := ⟨_, rfl⟩
        rw [← hk9] at hterr hhit
        subst hterr
        simp only [Prod.mk.injEq] at hhit
        obtain ⟨-, rfl, rfl⟩ := hhit
        have x0 : W2.cell? ⟨W.heap.size, 0, none⟩ = some (.int .i64 0) := two_of_row kx rfl
        have x1 : W2.cell? ⟨W.heap.size, 1, none⟩ = some (.string { data := #[] }) := two_of_row kx rfl
        have x2 : W2.cell? ⟨W.heap.size, 2, none⟩ = some (.int .i64 0) := two_of_row kx rfl
        have x3 : W2.cell? ⟨W.heap.size, 3, none⟩ = some (.int .i64 a) := two_of_row kx rfl
        have hq : ∀ w, (binOp .eql 28 (.agg #[.int .i64 0, .string { data := #[] }, .int .i64 0, .int .i64 a]) (.agg #[.int .i64 0, .string { data := #[] }, .int .i64 0, .int .i64 a])).run Tryd.prog w = .ok (.bool true) w := fun w => eql_tok ⟨0, ByteArray.empty, 0, a⟩ w
        have hei : ((er : Int) != 0) = true := by simp; omega
        have hee : ((er : Int) == (er : Int)) = true := by simp
        clear g3 g4 g5 g6 g7 g8 ho oW kx G H5 RD2 hszs hszW he hk9
        gi_wp2
        obtain ⟨g3, g4, g5, g6, g7, g8⟩ := GG.out
        obtain ⟨z1, z2, z3⟩ := HSZ.out
        have ho4 : Only (fun k => k = w.heap.size + 1 ∨ k = w2.heap.size + 3) W2 (W2.setCell ⟨w.heap.size + 1, 0, none⟩ (.bool true)) :=
          (Only.refl _ W2).setCell (p := ⟨w.heap.size + 1, 0, none⟩) (.inl (.inl rfl)) _
        refine ⟨ho4.keptT (fun k hk => ⟨?_, fun h => ?_⟩), rfl, ?_, ?_⟩
        · rcases hk with (hk | hk) | hk | hk <;> omega
        · rcases hk with (hk | hk) | hk | hk <;> omega
        · exact hp_same (j := 0) g4 (.bool true)
        · exact (H52.out.mono (fun k h => .inr h)).trans ho4 (fun j hj h => h)
  · rintro D W hD1 hD2 ⟨h1, hn, ⟨g3, g4, g5, g6, g7, g8⟩, h4, h5⟩ hK
    have hsc := scan_none (s := s) (fun x hx => hn x (by rw [List.take_length, HXS.out]; exact hx))
    rw [← HR.out, ← HXS.out] at hsc
    simp only [Prod.mk.injEq] at hsc
    obtain ⟨rfl, rfl, rfl⟩ := hsc
    obtain ⟨ao', vc', hv, -⟩ := RD.out
    cases hv
    have c4 := cell_of_one g4
    have f4 := free_of_one g4
    have c5 := cell_of_one g5
    have c7 := cell_of_one g7
    have c8 := cell_of_one g8
    have hz := HS3.out
    have hll : ((xs.length : Int) == ((List.map (fun x => x.1) xs).length : Int)) = true := by simp
    have G4 := Lib.hid g4
    have H5 := Lib.hid h5
    have HK := Lib.hid hK
    clear h5 hK hn g3 g4 g5 g6 g7 g8 k3 k4 k5 k6 k7 k8 q1 hW0
    go_wp2
    have e5 := one_setCell (u := .bool true) G4.out
    have ho : Only (fun k => k = w.heap.size + 1) W (W.setCell ⟨w.heap.size + 1, 0, none⟩ (.bool true)) := Only.setAt (Only.refl _ W) 0 _
    have hp : Only (fun k => k = D) (W.setCell ⟨w.heap.size + 1, 0, none⟩ (.bool true)) ((W.setCell ⟨w.heap.size + 1, 0, none⟩ (.bool true)).putObj D (.deferred none)) := only_putObj (Only.refl _ _) _ _ (.inl rfl)
    refine ⟨by simp, .inl ⟨_, _, rfl, run_takeDeferred (ho.keep HK.out (fun h => by omega)), ?_⟩⟩
    exact ⟨_, results_cell_one rfl _ _ ⟨w.heap.size + 1, 0, none⟩ _ _ rfl (cell_of_one (hp.keep e5 (fun h => by omega))) Tryd.underlying4 rfl, rfl, (((O3.out.trans H5.out (fun j hj h => by omega)).trans ho (fun j hj h => by omega)).trans hp (fun j hj h => by omega))⟩
  · rintro c D W hD1 hD2 ⟨rfl, g4, h5⟩ hK
    have G4 := Lib.hid g4
    have H5 := Lib.hid h5
    have HK := Lib.hid hK
    have hz := HS3.out
    clear h5 hK k3 k4 k5 k6 k7 k8 q1 hW0 g4
    go_wp2
    have hp : Only (fun k => k = D) W (W.putObj D (.deferred none)) := only_putObj (Only.refl _ _) _ _ (.inl rfl)
    refine ⟨by simp, .inl ⟨_, _, rfl, run_takeDeferred HK.out, ?_⟩⟩
    exact ⟨_, results_cell_one rfl _ _ ⟨w.heap.size + 1, 0, none⟩ _ _ rfl (cell_of_one (hp.keep G4.out (fun h => by omega))) Tryd.underlying4 rfl, rfl, ((O3.out.trans H5.out (fun j hj h => by omega)).trans hp (fun j hj h => by omega))⟩

end Go.Proofs.YtmoemnfflbielaaDoor
