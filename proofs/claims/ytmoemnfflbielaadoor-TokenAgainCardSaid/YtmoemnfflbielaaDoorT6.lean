/- The contract of Scan. -/
import Derived.Test.YtmoemnfflbielaaDoorT5
namespace Go.Gav
open Go Go.RowKit
theorem loadVar_one {P : Program} {ty : TypeId} {d : TypeDesc} (hu : P.underlying ty = some d) (hd : (match d with | .struct _ | .array _ _ => false | _ => true) = true) {w : World} {ad : Addr} {v : Value} (hc : w.cell? ad = some v) :
    (loadVar ty ad).run P w = .ok v w := by
  have hagg : (isAgg ty).run P w = .ok false w := by
    unfold isAgg
    rw [Sem.run_bind, run_underlying hu w]
    cases d <;> simp_all
  simp [loadVar, Sem.run_bind, hagg, hc, go_sem]
theorem results_cells3 {P : Program} {fn : Func} {p1 p2 p3 : Tmp} {t1 t2 t3 : TypeId} (h : fn.results = #[.cell p1 t1, .cell p2 t2, .cell p3 t3]) (tmps : Array Value) (w : World) {a1 a2 a3 : Addr} {v1 v2 v3 : Value}
    (h1 : tmps.getD p1 undef = .pointer (some a1)) (h2 : tmps.getD p2 undef = .pointer (some a2)) (h3 : tmps.getD p3 undef = .pointer (some a3))
    (l1 : (loadVar t1 a1).run P w = .ok v1 w) (l2 : (loadVar t2 a2).run P w = .ok v2 w) (l3 : (loadVar t3 a3).run P w = .ok v3 w) :
    (results fn tmps).run P w = .ok (.tuple #[v1, v2, v3]) w := by
  have h1' : tmps[p1]?.getD undef = .pointer (some a1) := by simpa using h1
  have h2' : tmps[p2]?.getD undef = .pointer (some a2) := by simpa using h2
  have h3' : tmps[p3]?.getD undef = .pointer (some a3) := by simpa using h3
  simp [results, h, Result.andThen, h1', h2', h3', asAddr, l1, l2, l3]
end Go.Gav
namespace Go.Proofs.YtmoemnfflbielaaDoor
open Go.RowKit Go.Gav Go.BigFrame Go.Shelf
attribute [local go_sem] Oper.semAt_some

/-- The cells of words, in a row. -/
def flatT : List Tok → List Value
  | [] => []
  | t :: r => (tokC t).toList ++ flatT r
theorem flatT_append : ∀ a b, flatT (a ++ b) = flatT a ++ flatT b
  | [], b => rfl
  | t :: a, b => by rw [List.cons_append, flatT, flatT, flatT_append a b, List.append_assoc]
theorem flatT_length : ∀ l, (flatT l).length = l.length * 4
  | [] => rfl
  | t :: l => by rw [flatT, List.length_append, flatT_length l, List.length_cons]; simp [tokC]; omega

/-- What Scan answers. -/
def scanR (s : ByteArray) : List Tok × Nat × Nat :=
  match (items s).find? (fun x => x.2 != 0) with
  | some x => ([], x.1.At, x.2)
  | none => ((items s).map (·.1), 0, 0)

theorem itemsF_length (s : ByteArray) : ∀ f k, (itemsF s f k).length ≤ f
  | 0, k => by simp [itemsF]
  | f + 1, k => by
    rw [itemsF]
    split
    · simp
    · split
      · simp
      · have := itemsF_length s f (gapTo s (k + (nextR s k).2.1))
        simp; omega

theorem items_length (s : ByteArray) : (items s).length ≤ 16385 := by
  unfold items
  split
  · simp
  · have := itemsF_length s (s.size + 1) (gapTo s 0)
    omega

theorem info28 : (Tryd.prog.info? 28).map (fun i => (i.zero, i.size, i.bytes)) = some (some (.agg #[.int .i64 0, .string { data := #[] }, .int .i64 0, .int .i64 0]), 4, 40) := by kernel_rfl

theorem new_cells (w : World) (cs : List Value) (t : TypeId) : ∀ j u, cs[j]? = some u → (w.alloc (.cells cs.toArray t)).cell? ((⟨w.heap.size, 0, none⟩ : Addr).add j) = some u := by
  intro j u hj
  have hadd : (⟨w.heap.size, 0, none⟩ : Addr).add j = ⟨w.heap.size, j, none⟩ := by unfold Addr.add; split <;> simp_all
  rw [hadd, cell_of_row _ _ _ _ _ _ (heap_alloc_new w _)]
  simpa using hj

theorem all_call (s : ByteArray) (w : World) :
    Calls Tryd.prog 13 #[.string s] w fun e w' => e = .returned (.func (.func 17) #[] #[.pointer (some ⟨w.heap.size, 0, none⟩)]) ∧ w' = w.alloc (.cells #[.string s] 9) := by
  go_enter Tryd.func13, Tryd.ntmps13
  go_wp2
  go_ret
  exact ⟨rfl, rfl⟩

theorem find_at {α : Type} {p : α → Bool} : ∀ (l : List α) (i : Nat) (h : i < l.length), (∀ x ∈ l.take i, p x = false) → p l[i] = true → l.find? p = some l[i]
  | a :: l, 0, _, _, hp => List.find?_cons_of_pos hp
  | a :: l, i + 1, h, hn, hp => by
    rw [List.find?_cons_of_neg (by simp [hn a (by simp)])]
    exact find_at l i (by simpa using h) (fun m hm => hn m (by simp [hm])) hp

set_option maxRecDepth 100000 in
set_option maxHeartbeats 1000000 in
theorem scan_at (s : ByteArray) (hs : s.size ≤ 4000000000000000000) (w : World) (hm : MarksAt w) :
    Calls Tryd.prog 8 #[.string s] w fun e w' => ∃ v, e = .returned (.tuple #[v, .int .i64 (scanR s).2.1, .int .i64 (scanR s).2.2]) ∧ w'.ownsRow w.heap.size 28 4 v (scanR s).1.length (flatT (scanR s).1) ∧ Only (fun _ => False) w w' := by
  obtain ⟨i0, hi, hz0, hz1, hz2⟩ := info_parts info28
  have HM := Lib.hid hm
  have hw0 : 0 < w.heap.size := World.block_lt_of_cell? w _ (hm 0 _ rfl)
  obtain ⟨r, hr⟩ : ∃ r, r = scanR s := ⟨_, rfl⟩
  rw [← hr]
  unfold scanR at hr
  have hlen := items_length s
  have HR := Lib.hid hr
  clear hm hr
  refine callsIn_wide.1 (callsIn_of_wp_marks (F := Fence.wide) (n := 0) Tryd.func8 rfl trivial ?_)
  simp only [Tryd.ntmps8, List.size_toArray, List.length_cons, List.length_nil, Nat.reduceAdd, Nat.reduceSub, Array.replicate_succ, Array.replicate_zero, List.push_toArray, List.append_toArray, List.nil_append, List.cons_append]
  refine wpIn_wide.2 ?_
  go_wp2_with (fail)
  refine (all_call s _).mono ?_
  rintro _ w1 ⟨rfl, hw1⟩
  have o1 : Only (fun _ => False) w w1 := by rw [hw1]; exact (((((Only.refl _ _).alloc _).alloc _).alloc _).alloc _).alloc _
  have hs1 : w1.heap.size = w.heap.size + 5 := by rw [hw1]; simp
  have k0 : w1.heap[w.heap.size]? = some (.cells #[.slice none 0 0] 23 (0, 0)) := by
    rw [hw1]; exact hp_alloc (hp_alloc (hp_alloc (hp_alloc (heap_alloc_new w _) _) _) _) _
  have k1 : w1.heap[w.heap.size + 1]? = some (.cells #[.int .i64 0] 3 (0, 0)) := by
    rw [hw1]; exact hp_alloc (hp_alloc (hp_alloc (heap_alloc2_new w _ _) _) _) _
  have k2 : w1.heap[w.heap.size + 2]? = some (.cells #[.int .i64 0] 24 (0, 0)) := by
    have h := heap_alloc_new ((w.alloc (Obj.cells #[Value.slice none 0 0] 23)).alloc (Obj.cells #[Value.int IntKind.i64 0] 3)) (Obj.cells #[Value.int IntKind.i64 0] 24)
    simp only [World.size_alloc] at h
    rw [hw1]; exact hp_alloc (hp_alloc h _) _
  have k3 : w1.heap[w.heap.size + 3]? = some (.cells #[.slice none 0 0] 23 (0, 0)) := by
    have h := heap_alloc_new (((w.alloc (Obj.cells #[Value.slice none 0 0] 23)).alloc (Obj.cells #[Value.int IntKind.i64 0] 3)).alloc (Obj.cells #[Value.int IntKind.i64 0] 24)) (Obj.cells #[Value.slice none 0 0] 23)
    simp only [World.size_alloc] at h
    rw [hw1]; exact hp_alloc h _
  have k4 : w1.heap[w.heap.size + 4]? = some (.cells #[.string s] 9 (0, 0)) := by
    have h := heap_alloc_new ((((w.alloc (Obj.cells #[Value.slice none 0 0] 23)).alloc (Obj.cells #[Value.int IntKind.i64 0] 3)).alloc (Obj.cells #[Value.int IntKind.i64 0] 24)).alloc (Obj.cells #[Value.slice none 0 0] 23)) (Obj.cells #[Value.string s] 9)
    simp only [World.size_alloc] at h
    rw [hw1]; exact h
  have HM1 := HM.out.only o1 id
  have hbxe : w.heap.size + 1 + 1 + 1 + 1 = w.heap.size + 4 := rfl
  have q1 := all_iter (w.heap.size + 4) s hs w1 (cell_of_one k4) HM1
  have HS1 := Lib.hid hs1
  have O1 := Lib.hid o1
  obtain ⟨xs, hxs⟩ : ∃ xs, xs = items s := ⟨_, rfl⟩
  rw [← hxs] at HR q1 hlen
  clear hw1 hs1 o1 HM HM1 k4 hxs hbxe
  go_wp2_with (fail)
  refine wp_rangeS (gf := 17) (lb := #[.pointer (some ⟨w.heap.size + 4, 0, none⟩)]) rfl (enters_of Tryd.func17 (by kernel_rfl) rfl) (fun k hk => by have := HS1.out; omega) q1 (fun x => rfl) ?_
  intro W0 hW0 hs0
  have hwW : w.heap.size + 7 ≤ W0.heap.size := by have := HS1.out; omega
  refine ⟨fun i W => i ≤ xs.length ∧ (∀ x ∈ xs.take i, (x.2 != 0) = false) ∧ W.heap[w.heap.size]? = some (.cells #[.slice none 0 0] 23 (0, 0)) ∧ W.heap[w.heap.size + 1]? = some (.cells #[.int .i64 0] 3 (0, 0)) ∧ W.heap[w.heap.size + 2]? = some (.cells #[.int .i64 0] 24 (0, 0)) ∧
      ∃ v, W.heap[w.heap.size + 3]? = some (.cells #[v] 23 (0, 0)) ∧ W.ownsRow W0.heap.size 28 4 v i (flatT ((xs.take i).map (·.1))) ∧ W0.heap.size ≤ W.heap.size ∧ Only (fun _ => False) w W,
    fun c W => c = .ret ∧ (∃ x, xs.find? (fun x => x.2 != 0) = some x ∧ W.heap[w.heap.size]? = some (.cells #[.slice none 0 0] 23 (0, 0)) ∧ W.heap[w.heap.size + 1]? = some (.cells #[.int .i64 x.1.At] 3 (0, 0)) ∧ W.heap[w.heap.size + 2]? = some (.cells #[.int .i64 x.2] 24 (0, 0))) ∧ Only (fun _ => False) w W, ?_, ?_, ?_, ?_, ?_, ?_⟩
  · exact ⟨Nat.zero_le _, fun x hx => by simp at hx, hW0.keep k0 id, hW0.keep k1 id, hW0.keep k2 id, _, hW0.keep k3 id, by simpa [flatT] using World.ownsRow_nil W0 W0.heap.size 28 4, Nat.le_refl _, O1.out.trans hW0 (fun _ _ h => h)⟩
  · rintro i W1 W2 ⟨h1, hn, g0, g1, g2, v, h2, h3, h4, h5⟩ ho
    have hz := HS1.out
    have hk : ∀ k, k < w.heap.size + 5 → ¬ Span w1.heap.size W0.heap.size k := fun k hk h => by have := h.1; omega
    exact ⟨h1, hn, ho.keep g0 (hk _ (by omega)), ho.keep g1 (hk _ (by omega)), ho.keep g2 (hk _ (by omega)), v, ho.keep h2 (hk _ (by omega)), ownsRow_only h3 ho (fun k hk hh => by have := hh.2; omega), by have := ho.size; omega, h5.trans ho (fun j hj h => by have := h.1; omega)⟩
  · rintro c W1 W2 ⟨h1, ⟨x, hx, g0, g1, g2⟩, h5⟩ ho
    have hz := HS1.out
    have hk : ∀ k, k < w.heap.size + 5 → ¬ Span w1.heap.size W0.heap.size k := fun k hk h => by have := h.1; omega
    exact ⟨h1, ⟨x, hx, ho.keep g0 (hk _ (by omega)), ho.keep g1 (hk _ (by omega)), ho.keep g2 (hk _ (by omega))⟩, h5.trans ho (fun j hj h => by have := h.1; omega)⟩
  · rintro l i hil Wp W ⟨h1, hn, g0, g1, g2, v, h2, h3, h4, h5⟩ hoP
    have hz := HS1.out
    have hk : ∀ k, k < w.heap.size + 5 → ¬ Span w1.heap.size W0.heap.size k := fun k hk h => by have := h.1; omega
    have hszP := hoP.size
    have hrow : Hid (∀ q, v.ownBlock = some q → W0.heap.size ≤ q ∧ q < Wp.heap.size) := fun q hq => h3.lt q hq
    have G0 := Lib.hid (hoP.keep g0 (hk _ (by omega)))
    have G1 := Lib.hid (hoP.keep g1 (hk _ (by omega)))
    have G2 := Lib.hid (hoP.keep g2 (hk _ (by omega)))
    have H2 := Lib.hid (hoP.keep h2 (hk _ (by omega)))
    have H3 := Lib.hid (ownsRow_only h3 hoP (fun k hk hh => by have := hh.2; omega))
    have H5 : Hid (Only (fun _ => False) w W) := h5.trans hoP (fun j hj h => by have := h.1; omega)
    obtain ⟨⟨t, e⟩, hxi⟩ : ∃ xi, xi = xs[i] := ⟨_, rfl⟩
    rw [← hxi]
    simp only [encI, tokC]
    have HXI := Lib.hid hxi
    have HN := Lib.hid hn
    clear hxi h2 h3 h5 g0 g1 g2 hn k0 k1 k2 k3 q1 hoP
    gi_wp2
    have oW : Only (fun _ => False) W (W.alloc (Obj.cells #[Value.int IntKind.i64 t.kind, Value.string t.S, Value.int IntKind.i64 t.N, Value.int IntKind.i64 t.At] 28)) := (Only.refl _ _).alloc _
    refine ⟨oW.keptT (fun k hk => ⟨?_, id⟩), fun W2 ho => ?_⟩
    · rcases hk with (hk | hk) | hk | hk <;> omega
    · have hszs := ho.size
      have hszW := oW.size
      have kx : W2.heap[W.heap.size]? = some (.cells #[.int .i64 t.kind, .string t.S, .int .i64 t.N, .int .i64 t.At] 28 (0, 0)) := ho.keep (heap_alloc_new W _) (fun h => by have := h.2; omega)
      have g0 := ho.keep (oW.keep G0.out id) (hk _ (by omega))
      have g1 := ho.keep (oW.keep G1.out id) (hk _ (by omega))
      have g2 := ho.keep (oW.keep G2.out id) (hk _ (by omega))
      have h2 := ho.keep (oW.keep H2.out id) (hk _ (by omega))
      have h3 := ownsRow_only (ownsRow_only H3.out oW (fun _ _ => id)) ho (fun k hk hh => by have := hh.2; omega)
      have h5 : Only (fun _ => False) w W2 := (H5.out.trans oW (fun _ _ h => h)).trans ho (fun j hj h => by have := h.1; omega)
      have x0 : W2.cell? ⟨W.heap.size, 0, none⟩ = some (.int .i64 t.kind) := two_of_row kx rfl
      have x1 : W2.cell? ⟨W.heap.size, 1, none⟩ = some (.string t.S) := two_of_row kx rfl
      have x2 : W2.cell? ⟨W.heap.size, 2, none⟩ = some (.int .i64 t.N) := two_of_row kx rfl
      have x3 : W2.cell? ⟨W.heap.size, 3, none⟩ = some (.int .i64 t.At) := two_of_row kx rfl
      by_cases he : e = 0
      · subst he
        have c2 := cell_of_one h2
        have f2 := free_of_one h2
        have GG := Lib.hid (And.intro g0 (And.intro g1 g2))
        have H2' := Lib.hid h2
        have H3' := Lib.hid h3
        have H5' := Lib.hid h5
        have HB : ∀ w3, (W2.alloc (.cells #[.int .i64 t.kind, .string t.S, .int .i64 t.N, .int .i64 t.At] 28)).grownBy w3 v.ownBlock → w3.heap[w.heap.size + 3]? = some (.cells #[v] 23 (0, 0)) := fun w3 hg => by
          refine (hg.block _ (by simp; omega) (fun e => ?_)).trans (hp_alloc h2 _)
          have := (hrow.out _ e.symm).1
          omega
        have HBH := Lib.hid HB
        clear h2 h3 h5 g0 g1 g2 G0 G1 G2 H2 H3 H5 ho HB kx
        gi_wp2_with (gi_at_builtin; (refine wpListIn_append_own _ rfl (.tmp 17) (.tmp 19) 23 rfl W0.heap.size 28 i0 (.agg #[.int .i64 0, .string { data := #[] }, .int .i64 0, .int .i64 0]) 4 40 Tryd.underlying23 hi hz0 hz1 hz2 rfl (by decide) _ _ _ rfl (H3'.out.alloc _) ⟨W2.heap.size, 0, none⟩ 1 1 [.int .i64 t.kind, .string t.S, .int .i64 t.N, .int .i64 t.At] rfl rfl (new_cells _ _ _) (by simp [Value.oneCell']) (by unfold maxLen; omega) (by omega) (by simp; omega) ?_); intro v' w3 hown' hgrow _; obtain ⟨g3, cap3, rfl⟩ := ownsRow_succ hown'; have c3 := cell_of_one (HBH.out _ hgrow); have f3 := free_of_one (HBH.out _ hgrow))
        have hgr := hgrow
        have how := hown'
        have hz := HS1.out
        have hr0 := hrow.out
        have ho4 : Only (fun k => k = w.heap.size + 3 ∨ v.ownBlock = some k) W2 (w3.setCell ⟨w.heap.size + 3, 0, none⟩ (.slice (some ⟨g3, 0, none⟩) (i + 1) cap3)) :=
          (((Only.refl _ W2).alloc _).grown hgr (fun k hk => .inl (.inr hk))).setCell (p := ⟨w.heap.size + 3, 0, none⟩) (.inl (.inl rfl)) _
        have hno : ∀ k, k < w.heap.size + 3 → ¬ (k = w.heap.size + 3 ∨ v.ownBlock = some k) := fun k hk h => by
          rcases h with h | h
          · omega
          · have := hr0 k h; omega
        refine ⟨ho4.keptT (fun k hk => ⟨?_, fun h => ?_⟩), by omega, ?_, ho4.keep GG.out.1 (hno _ (by omega)), ho4.keep GG.out.2.1 (hno _ (by omega)), ho4.keep GG.out.2.2 (hno _ (by omega)), _, one_setCell (HBH.out _ hgr), ?_, ?_, ?_⟩
        · rcases hk with (hk | hk) | hk | hk <;> omega
        · rcases h with h | h
          · rcases hk with (hk | hk) | hk | hk <;> omega
          · have := hr0 k h
            rcases hk with (hk | hk) | hk | hk <;> omega
        · intro x hx
          rw [List.take_succ_eq_append_getElem hil] at hx
          rcases List.mem_append.1 hx with hx | hx
          · exact HN.out x hx
          · have : x = xs[i] := by simpa using hx
            rw [this, ← HXI.out]; rfl
        · have e : flatT ((xs.take (i + 1)).map (·.1)) = flatT ((xs.take i).map (·.1)) ++ [.int .i64 t.kind, .string t.S, .int .i64 t.N, .int .i64 t.At] := by
            rw [List.take_succ_eq_append_getElem hil, List.map_append, flatT_append, ← HXI.out]; rfl
          rw [e]
          exact ownsRow_setCell_below how (by show w.heap.size + 3 < W0.heap.size; omega) _
        · exact Nat.le_trans (by omega) ho4.size
        · exact H5'.out.trans ho4 (fun j hj h => hno j (by omega) h)
      · have hei : ((e : Int) != 0) = true := by simp; omega
        have c0 := cell_of_one g0
        have f0 := free_of_one g0
        have c1 := cell_of_one g1
        have f1 := free_of_one g1
        have c2 := cell_of_one g2
        have f2 := free_of_one g2
        have HH := Lib.hid (And.intro g0 (And.intro g1 (And.intro g2 h5)))
        have HSZ : Hid (W.heap.size ≤ W2.heap.size ∧ Wp.heap.size ≤ W.heap.size ∧ W0.heap.size ≤ Wp.heap.size) := ⟨by omega, by omega, by omega⟩
        have HF := Lib.hid (find_at (p := fun x : Tok × Nat => x.2 != 0) xs i hil HN.out (by rw [← HXI.out]; simp [he]))
        rw [← HXI.out] at HF
        clear g0 g1 g2 h2 h3 h5 G0 G1 G2 H2 H3 H5 ho oW kx he
        gi_wp2
        gi_region
        all_goals (
          gi_wp2
          obtain ⟨g0, g1, g2, h5⟩ := HH.out
          obtain ⟨z1, z2, z3⟩ := HSZ.out
          have hz := HS1.out
          have ho4 : Only (fun k => k = w.heap.size ∨ k = w.heap.size + 1 ∨ k = w.heap.size + 2) W2 (((W2.setCell ⟨w.heap.size, 0, none⟩ (.slice none 0 0)).setCell ⟨w.heap.size + 1, 0, none⟩ (.int .i64 t.At)).setCell ⟨w.heap.size + 2, 0, none⟩ (.int .i64 e)) :=
            (((Only.refl _ W2).setCell (p := ⟨w.heap.size, 0, none⟩) (.inl (.inl rfl)) _).setCell (p := ⟨w.heap.size + 1, 0, none⟩) (.inl (.inr (.inl rfl))) _).setCell (p := ⟨w.heap.size + 2, 0, none⟩) (.inl (.inr (.inr rfl))) _
          refine ⟨(ho4.drewN 1).keptT (fun k hk => ⟨?_, fun h => ?_⟩), rfl, ⟨(t, e), HF.out, ?_, ?_, ?_⟩, ?_⟩
          · rcases hk with (hk | hk) | hk | hk <;> omega
          · rcases hk with (hk | hk) | hk | hk <;> omega
          · have := hp_other (hp_other (hp_same (j := 0) g0 (.slice none 0 0)) (p := ⟨w.heap.size + 1, 0, none⟩) (by simp) (.int .i64 t.At)) (p := ⟨w.heap.size + 2, 0, none⟩) (by simp) (.int .i64 e)
            exact this
          · have := hp_other (hp_same (j := 0) (hp_other g1 (p := ⟨w.heap.size, 0, none⟩) (by simp) (.slice none 0 0)) (.int .i64 t.At)) (p := ⟨w.heap.size + 2, 0, none⟩) (by simp) (.int .i64 e)
            exact this
          · have := hp_same (j := 0) (hp_other (hp_other g2 (p := ⟨w.heap.size, 0, none⟩) (by simp) (.slice none 0 0)) (p := ⟨w.heap.size + 1, 0, none⟩) (by simp) (.int .i64 t.At)) (.int .i64 e)
            exact this
          · exact h5.trans (ho4.drewN 1) (fun j hj h => by omega))
  · rintro D W hD1 hD2 ⟨h1, hn, g0, g1, g2, v, h2, h3, h4, h5⟩ hK
    have hsh : ∃ ao n c, v = .slice ao n c := by
      rcases h3.2 with ⟨h, _⟩ | ⟨g, c, _, h, _⟩
      · exact ⟨_, _, _, h⟩
      · exact ⟨_, _, _, h⟩
    obtain ⟨ao, n, cp, rfl⟩ := hsh
    have c3 := cell_of_one h2
    have c0 := cell_of_one g0
    have f0 := free_of_one g0
    have c1 := cell_of_one g1
    have f1 := free_of_one g1
    have c2 := cell_of_one g2
    have f2 := free_of_one g2
    have G := Lib.hid (And.intro g0 (And.intro g1 g2))
    have H3 := Lib.hid h3
    have H5 := Lib.hid h5
    have HK := Lib.hid hK
    have HN := Lib.hid hn
    have hz := HS1.out
    have hDW := lt_of_block hK
    clear h2 h3 h5 hK k0 k1 k2 k3 q1 hW0 g0 g1 g2 hn
    go_wp2
    obtain ⟨g0, g1, g2⟩ := G.out
    have n0 := hp_other (hp_other (hp_same (j := 0) g0 (.slice ao n cp)) (p := ⟨w.heap.size + 1, 0, none⟩) (by simp) (.int .i64 0)) (p := ⟨w.heap.size + 2, 0, none⟩) (by simp) (.int .i64 0)
    have n1 := hp_other (hp_same (j := 0) (hp_other g1 (p := ⟨w.heap.size, 0, none⟩) (by simp) (.slice ao n cp)) (.int .i64 0)) (p := ⟨w.heap.size + 2, 0, none⟩) (by simp) (.int .i64 0)
    have n2 := hp_same (j := 0) (hp_other (hp_other g2 (p := ⟨w.heap.size, 0, none⟩) (by simp) (.slice ao n cp)) (p := ⟨w.heap.size + 1, 0, none⟩) (by simp) (.int .i64 0)) (.int .i64 0)
    have o4 : Only (fun k => k = w.heap.size ∨ k = w.heap.size + 1 ∨ k = w.heap.size + 2) W (((W.setCell ⟨w.heap.size, 0, none⟩ (.slice ao n cp)).setCell ⟨w.heap.size + 1, 0, none⟩ (.int .i64 0)).setCell ⟨w.heap.size + 2, 0, none⟩ (.int .i64 0)) :=
      (((Only.refl _ W).setCell (p := ⟨w.heap.size, 0, none⟩) (.inl (.inl rfl)) _).setCell (p := ⟨w.heap.size + 1, 0, none⟩) (.inl (.inr (.inl rfl))) _).setCell (p := ⟨w.heap.size + 2, 0, none⟩) (.inl (.inr (.inr rfl))) _
    have hKK := o4.keep HK.out (fun h => by omega)
    refine ⟨by simp, .inl ⟨_, _, rfl, run_takeDeferred hKK, ?_⟩⟩
    have o5 : Only (fun k => k = w.heap.size ∨ k = w.heap.size + 1 ∨ k = w.heap.size + 2 ∨ k = D) W ((((W.setCell ⟨w.heap.size, 0, none⟩ (.slice ao n cp)).setCell ⟨w.heap.size + 1, 0, none⟩ (.int .i64 0)).setCell ⟨w.heap.size + 2, 0, none⟩ (.int .i64 0)).putObj D (.deferred none)) :=
      only_putObj (o4.mono (fun k h => by omega)) _ _ (.inl (.inr (.inr (.inr rfl))))
    refine ⟨_, results_cells3 rfl _ _ (a1 := ⟨w.heap.size, 0, none⟩) (a2 := ⟨w.heap.size + 1, 0, none⟩) (a3 := ⟨w.heap.size + 2, 0, none⟩) rfl rfl rfl
      (loadVar_one Tryd.underlying23 rfl (cell_of_one ((World.putObj_heap_other (by omega)).trans n0))) (loadVar_one Tryd.underlying3 rfl (cell_of_one ((World.putObj_heap_other (by omega)).trans n1))) (loadVar_one Tryd.underlying24 rfl (cell_of_one ((World.putObj_heap_other (by omega)).trans n2))), ?_⟩
    have hnone : xs.find? (fun x => x.2 != 0) = none := by
      rw [List.find?_eq_none]
      intro x hx
      rw [HN.out x (by rw [List.take_length]; exact hx)]
      simp
    have e := HR.out
    rw [hnone] at e
    refine ⟨_, by rw [e]; rfl, ?_, H5.out.trans o5 (fun j hj h => by omega)⟩
    have e3 := H3.out
    rw [List.take_length] at e3
    have e2 := ownsRow_only e3 o5 (fun k hk hh => by omega)
    rw [e]
    simp only
    refine ⟨by simpa using e2.1, ?_⟩
    rcases e2.2 with ⟨hn1, hn2⟩ | ⟨g, cap, cur, hv, hb, hgg, rest⟩
    · exact .inl ⟨hn1, by simpa using hn2⟩
    · exact .inr ⟨g, cap, cur, by simpa using hv, by omega, hgg, by simpa using rest⟩
  · rintro c D W hD1 hD2 ⟨rfl, ⟨x, hx, g0, g1, g2⟩, h5⟩ hK
    have G := Lib.hid (And.intro g0 (And.intro g1 g2))
    have H5 := Lib.hid h5
    have HK := Lib.hid hK
    have HX := Lib.hid hx
    have hz := HS1.out
    clear h5 hK k0 k1 k2 k3 q1 hW0 g0 g1 g2 hx
    go_wp2
    obtain ⟨g0, g1, g2⟩ := G.out
    refine ⟨by simp, .inl ⟨_, _, rfl, run_takeDeferred HK.out, ?_⟩⟩
    have o5 : Only (fun k => k = D) W (W.putObj D (.deferred none)) := only_putObj (Only.refl _ W) _ _ (.inl rfl)
    refine ⟨_, results_cells3 rfl _ _ (a1 := ⟨w.heap.size, 0, none⟩) (a2 := ⟨w.heap.size + 1, 0, none⟩) (a3 := ⟨w.heap.size + 2, 0, none⟩) rfl rfl rfl
      (loadVar_one Tryd.underlying23 rfl (cell_of_one ((World.putObj_heap_other (by omega)).trans g0))) (loadVar_one Tryd.underlying3 rfl (cell_of_one ((World.putObj_heap_other (by omega)).trans g1))) (loadVar_one Tryd.underlying24 rfl (cell_of_one ((World.putObj_heap_other (by omega)).trans g2))), ?_⟩
    have e := HR.out
    rw [HX.out] at e
    refine ⟨_, by rw [e], ?_, H5.out.trans o5 (fun j hj h => by omega)⟩
    rw [e]
    exact World.ownsRow_nil _ _ _ _

end Go.Proofs.YtmoemnfflbielaaDoor
