/- The contracts of slices.Collect and slices.AppendSeq  at links, in an order of the iterator's own. -/
import Derived.Test.YtflcdbefakjcbaaN4
namespace Go.Proofs.Ytflcdbefakjcbaa
open Go.RowKit Go.Gav Go.BigFrame Go.Shelf
attribute [local go_sem] Oper.semAt_some

theorem info_parts {i : Option TypeInfo} {z : Option Value} {n b : Nat} (h : i.map (fun i => (i.zero, i.size, i.bytes)) = some (z, n, b)) : ∃ i0, i = some i0 ∧ i0.zero = z ∧ i0.size = n ∧ i0.bytes = b := by
  cases i with
  | none => simp at h
  | some i => simp at h; exact ⟨i, rfl, h⟩
theorem info62 : (Try.prog.info? 62).map (fun i => (i.zero, i.size, i.bytes)) = some (some (.agg #[.int .i64 0, .int .i64 0]), 2, 16) := by kernel_rfl

theorem nodup_le' : ∀ (l m : List En), l.Nodup → (∀ z ∈ l, z ∈ m) → l.length ≤ m.length
  | [], m, _, _ => by simp
  | a :: l, m, hn, hs => by
    obtain ⟨m1, m2, rfl⟩ := List.append_of_mem (hs a (by simp))
    have h1 := nodup_le' l (m1 ++ m2) (List.nodup_cons.1 hn).2 (fun z hz => by
      have h2 := hs z (by simp [hz])
      have h3 : z ≠ a := fun e => (List.nodup_cons.1 hn).1 (e ▸ hz)
      simp only [List.mem_append, List.mem_cons] at h2 ⊢
      rcases h2 with h2 | h2 | h2
      · exact .inl h2
      · exact absurd h2 h3
      · exact .inr h2)
    simp only [List.length_append, List.length_cons] at h1 ⊢
    omega
theorem nodup_le {l m : List En} {x : En} (hn : l.Nodup) (hs : ∀ z ∈ l, z ∈ m) (hx : x ∈ m ∧ x ∉ l) : l.length + 1 ≤ m.length :=
  nodup_le' (x :: l) m (List.nodup_cons.2 ⟨hx.2, hn⟩) (fun z hz => by
    rcases List.mem_cons.1 hz with rfl | hz
    · exact hx.1
    · exact hs z hz)

set_option maxRecDepth 100000 in
set_option maxHeartbeats 1000000 in
theorem append_seqU (S : Nat → Prop) (gf : FuncId) (lb : Array Value) (xs : List En) (w : World) (eg : ∀ args w, (callFunc gf args).run Try.prog w = .ok (.enter gf args) w) (hS : ∀ k, S k → k < w.heap.size) (hit : IterU Try.prog gf lb encE xs w S) (hle : xs.length ≤ 1000) :
    Calls Try.prog 56 #[.slice none 0 0, .func (.func gf) #[] lb] w fun e w' => ∃ v ys, e = .returned v ∧ ys.Perm xs ∧ w'.ownsRow w.heap.size 62 2 v ys.length (flat ys) ∧ Only (fun _ => False) w w' := by
  obtain ⟨i0, hi, hz0, hz1, hz2⟩ := info_parts info62
  have HI := Lib.hid hit
  clear hit
  refine callsIn_wide.1 (callsIn_of_wp_marks (F := Fence.wide) (n := 0) Try.func56 rfl trivial ?_)
  simp only [Try.ntmps56, List.size_toArray, List.length_cons, List.length_nil, Nat.reduceAdd, Nat.reduceSub, Array.replicate_succ, Array.replicate_zero, List.push_toArray, List.append_toArray, List.nil_append, List.cons_append]
  refine wpIn_wide.2 ?_
  go_wp2_with (fail)
  have k1 : (w.alloc (Obj.cells #[Value.slice none 0 0] 87)).heap[w.heap.size]? = some (.cells #[.slice none 0 0] 87 (0, 0)) := heap_alloc_new w _
  have o1 : Only (fun _ => False) w (w.alloc (Obj.cells #[Value.slice none 0 0] 87)) := (Only.refl _ _).alloc _
  have hs1 : (w.alloc (Obj.cells #[Value.slice none 0 0] 87)).heap.size = w.heap.size + 1 := by simp
  have q1 := HI.out.only o1
  generalize w.alloc (Obj.cells #[Value.slice none 0 0] 87) = w1 at *
  have HS1 := Lib.hid hs1
  have O1 := Lib.hid o1
  clear hs1 o1
  refine wp_rangeU (gf := gf) (lb := lb) rfl eg (fun k hk => by have := hS k hk; have := HS1.out; omega) q1 (fun x => rfl) ?_
  intro W0 hW0 hs0
  have hwW : w.heap.size + 3 ≤ W0.heap.size := by have := HS1.out; omega
  refine ⟨fun i W => (i.Nodup ∧ ∀ y ∈ i, y ∈ xs) ∧ ∃ v, W.heap[w.heap.size]? = some (.cells #[v] 87 (0, 0)) ∧ W.ownsRow W0.heap.size 62 2 v i.length (flat i) ∧ W0.heap.size ≤ W.heap.size ∧ Only (fun _ => False) w W,
    fun _ _ => False, ?_, ?_, fun _ _ _ h _ => h, ?_, ?_, fun _ _ _ _ _ h _ => h.elim⟩
  · exact ⟨⟨by simp, by simp⟩, _, hW0.keep k1 id, by simpa [flat] using World.ownsRow_nil W0 W0.heap.size 62 2, Nat.le_refl _, O1.out.trans hW0 (fun _ _ h => h)⟩
  · rintro i W1 W2 ⟨h1, v, h2, h3, h4, h5⟩ ho
    have hz := HS1.out
    refine ⟨h1, v, ho.keep h2 (fun h => by have := h.1; omega), ?_, by have := ho.size; omega, h5.trans ho (fun j hj h => by have := h.1; omega)⟩
    exact ownsRow_only h3 ho (fun k hk hh => by have := hh.2; omega)
  · rintro l i x0 hil Wp W ⟨h1, v, h2p, h3p, h4p, h5p⟩ hoP
    have hzp := HS1.out
    have hszP := hoP.size
    have h2 := hoP.keep h2p (fun h => by have := h.1; omega)
    have h3 := ownsRow_only h3p hoP (fun k hk hh => by have := hh.2; omega)
    have h4 : W0.heap.size ≤ W.heap.size := by omega
    have h5 : Only (fun _ => False) w W := h5p.trans hoP (fun j hj h => by have := h.1; omega)
    have HLT := Lib.hid (fun k hk => h3p.lt k hk)
    have HSP := Lib.hid (And.intro h4p hszP)
    clear h2p h3p h4p h5p hoP hzp
    obtain ⟨x, y⟩ := x0
    have hil1 : i.length + 1 ≤ 1000 := by
      have := nodup_le (x := (x, y)) h1.1 h1.2 hil
      omega
    obtain ⟨n, hn⟩ : ∃ n, n = i.length := ⟨_, rfl⟩
    rw [← hn] at h3 hil1
    have HN := Lib.hid hn
    have HIL := Lib.hid hil
    have H1 := Lib.hid h1
    simp only [encE]
    have H2 := Lib.hid h2
    have H3 := Lib.hid h3
    have H5 := Lib.hid h5
    clear hn hil h1 h2 h3 h5 k1 q1
    gi_wp2
    have hz := HS1.out
    have oW : Only (fun _ => False) W (W.alloc (Obj.cells #[Value.int IntKind.i64 x, Value.int IntKind.i64 y] 62)) := (Only.refl _ _).alloc _
    have hsp := HSP.out
    refine ⟨oW.keptT (fun k hk => ⟨by rcases hk with hk | hk | hk <;> first | omega | (have := hS k hk; have := H5.out.size; omega), id⟩), fun W2 ho => ?_⟩
    have hszs := ho.size
    have hszW := oW.size
    have kx : W2.heap[W.heap.size]? = some (.cells #[.int .i64 x, .int .i64 y] 62 (0, 0)) := ho.keep (heap_alloc_new W _) (fun h => by have := h.2; omega)
    have h2 := ho.keep (oW.keep H2.out id) (fun h => by have := h.1; omega)
    have h3 := ownsRow_only (ownsRow_only H3.out oW (fun _ _ => id)) ho (fun k hk hh => by have := hh.2; omega)
    have h5 : Only (fun _ => False) w W2 := (H5.out.trans oW (fun _ _ h => h)).trans ho (fun j hj h => by have := h.1; omega)
    have c2 := cell_of_one h2
    have f2 := free_of_one h2
    obtain ⟨x0, x1⟩ := two_cells kx
    have H2' := Lib.hid h2
    have H3' := Lib.hid h3
    have H5' := Lib.hid h5
    have HB : ∀ w3, (W2.alloc (.cells #[.int .i64 x, .int .i64 y] 62)).grownBy w3 v.ownBlock → w3.heap[w.heap.size]? = some (.cells #[v] 87 (0, 0)) := fun w3 hg => by
      refine (hg.block _ (by simp; omega) (fun e => ?_)).trans (hp_alloc h2 _)
      have := (h3.lt _ e.symm).1
      omega
    have HBH := Lib.hid HB
    clear h2 h3 h5 H2 H3 H5 ho hz hW0 HB kx
    gi_wp2_with (gi_at_builtin; (refine wpListIn_append_own _ rfl (.tmp 8) (.tmp 10) 87 rfl W0.heap.size 62 i0 (.agg #[.int .i64 0, .int .i64 0]) 2 16 Try.underlying87 hi hz0 hz1 hz2 rfl (by decide) _ _ _ rfl (H3'.out.alloc _) ⟨W2.heap.size, 0, none⟩ 1 1 [.int .i64 x, .int .i64 y] rfl rfl (new_two2 _ _ _ _) (by simp [Value.oneCell']) (by unfold maxLen; omega) (by omega) (by simp; omega) ?_); intro v' w3 hown' hgrow _; obtain ⟨g3, cap3, rfl⟩ := ownsRow_succ hown'; have c3 := cell_of_one (HBH.out _ hgrow); have f3 := free_of_one (HBH.out _ hgrow))
    have hgr := hgrow
    have how := hown'
    have hrows : ∀ k, v.ownBlock = some k → (k = w.heap.size ∨ v.ownBlock = some k) ∨ W2.heap.size ≤ k := fun k hk => .inl (.inr hk)
    have ho4 : Only (fun k => k = w.heap.size ∨ v.ownBlock = some k) W2 (w3.setCell ⟨w.heap.size, 0, none⟩ (.slice (some ⟨g3, 0, none⟩) (n + 1) cap3)) :=
      (((Only.refl _ W2).alloc _).grown hgr hrows).setCell (p := ⟨w.heap.size, 0, none⟩) (.inl (.inl rfl)) _
    have hz := HS1.out
    have hsp := HSP.out
    have hlt := HLT.out
    refine ⟨ho4.keptT (fun k hk => ⟨?_, fun h => ?_⟩), ⟨?_, ?_⟩, _, one_setCell (HBH.out _ hgr), ?_, ?_, ?_⟩
    · rcases hk with hk | hk | hk <;> first | omega | (have := hS k hk; omega)
    · rcases h with h | h
      · rcases hk with hk | hk | hk <;> first | omega | (have := hS k hk; omega)
      · have := hlt k h
        rcases hk with hk | hk | hk <;> first | omega | (have := hS k hk; omega)
    · rw [List.nodup_append]
      refine ⟨H1.out.1, by simp, ?_⟩
      intro a ha b hb e
      simp at hb
      subst hb
      exact HIL.out.2 (e ▸ ha)
    · intro a ha
      rcases List.mem_append.1 ha with ha | ha
      · exact H1.out.2 a ha
      · simp at ha; rw [ha]; exact HIL.out.1
    · have e : flat (i ++ [(x, y)]) = flat i ++ [.int .i64 x, .int .i64 y] := by
        rw [flat_append]; rfl
      rw [e, List.length_append, ← HN.out]
      exact ownsRow_setCell_below how (by show w.heap.size < W0.heap.size; omega) _
    · have := ho4.size; omega
    · exact H5'.out.trans ho4 (fun j hj h => by
        rcases h with h | h
        · omega
        · have := hlt j h; omega)
  · rintro D W hD1 hD2 ⟨iz, hperm, h1, v, h2, h3, h4, h5⟩ hK
    have c2 := cell_of_one h2
    have H3 := Lib.hid h3
    have H5 := Lib.hid h5
    have HK := Lib.hid hK
    have hz := HS1.out
    have HPM := Lib.hid hperm
    clear h2 h3 h5 hK k1 q1 hW0 hperm
    go_wp2
    refine ⟨by simp, .inl ⟨_, _, rfl, run_takeDeferred HK.out, ?_⟩⟩
    have ho : Only (fun k => k = D) W (W.putObj D (.deferred none)) := only_putObj (Only.refl _ _) _ _ (.inl rfl)
    refine ⟨_, results_tmp rfl _ _ _, v, iz, rfl, HPM.out, ?_, H5.out.trans ho (fun j hj h => by omega)⟩
    have e := H3.out
    have e2 := ownsRow_only e ho (fun k hk hh => by omega)
    refine ⟨e2.1, ?_⟩
    rcases e2.2 with hn | ⟨g, cap, cur, hv, hb, hgg, rest⟩
    · exact .inl hn
    · exact .inr ⟨g, cap, cur, hv, by omega, hgg, rest⟩

theorem collectU (S : Nat → Prop) (gf : FuncId) (lb : Array Value) (xs : List En) (w : World) (eg : ∀ args w, (callFunc gf args).run Try.prog w = .ok (.enter gf args) w) (hS : ∀ k, S k → k < w.heap.size) (hit : IterU Try.prog gf lb encE xs w S) (hle : xs.length ≤ 1000) :
    Calls Try.prog 52 #[.func (.func gf) #[] lb] w fun e w' => ∃ v ys, e = .returned v ∧ ys.Perm xs ∧ w'.ownsRow w.heap.size 62 2 v ys.length (flat ys) ∧ Only (fun _ => False) w w' := by
  have HI := Lib.hid hit
  clear hit
  go_enter Try.func52, Try.ntmps52
  go_wp2_with (fail)
  refine (append_seqU S gf lb xs _ eg hS HI.out hle).mono ?_
  rintro e w2 ⟨v, ys, rfl, hp2, h2, o2⟩
  have H2 := Lib.hid h2
  have O2 := Lib.hid o2
  have HP2 := Lib.hid hp2
  clear h2 o2 hp2
  go_wp2
  go_ret
  exact ⟨_, _, rfl, HP2.out, H2.out, O2.out⟩

end Go.Proofs.Ytflcdbefakjcbaa
