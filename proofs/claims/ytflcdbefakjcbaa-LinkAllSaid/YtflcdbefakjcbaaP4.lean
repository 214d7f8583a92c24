/- The contract of the iterator of Heads. -/
import Derived.Test.YtflcdbefakjcbaaP3
namespace Go.Proofs.Ytflcdbefakjcbaa
open Go.RowKit Go.Gav Go.BigFrame Go.Shelf
attribute [local go_sem] Oper.semAt_some

/-- What is handed out of a link. -/
def selH (l : List Int) : List Int := l.take 1
theorem selH_nil : selH [] = [] := rfl
theorem selH_le (l : List Int) : (selH l).length ≤ l.length := by simp [selH]; omega

set_option maxRecDepth 100000 in
set_option maxHeartbeats 4000000 in
theorem heads_iter {S : Nat → Prop} {xb n room : Nat} {f : Cont} (b0 b1 : Nat) (w : World) (h0 : w.cell? ⟨b0, 0, none⟩ = some (.pointer (some ⟨xb, 0, none⟩))) (h1 : w.cell? ⟨b1, 0, none⟩ = some (.func (.func 42) #[] #[])) (hnet : Net w S xb n room f) :
    IterS Try.prog 51 #[.pointer (some ⟨b0, 0, none⟩), .pointer (some ⟨b1, 0, none⟩)] encH (handL selH f (gridE n)) w (fun _ => False) := by
  obtain ⟨i0, hi, hz0, hz1, hz2⟩ := info_parts info103
  intro l W hW R H
  have hl0 := World.block_lt_of_cell? w _ h0
  have hl1 := World.block_lt_of_cell? w _ h1
  have c0 := hW.cell h0 id
  have c1 := hW.cell h1 id
  obtain ⟨mb, ps, rb, own, hh⟩ := hnet.only hW (fun _ _ => id)
  have hKeq : handL selH f (keysOf n ps) = handL selH f (gridE n) := by
    refine handL_filter selH f _ selH_nil _ (fun x _ hx => hh.off x (fun p hp e => ?_))
    simp at hx
    exact hx p.2 (by rw [← e]; exact hp)
  rw [← hKeq] at H
  have HHand := Lib.hid H
  have oA : Only (fun _ => False) W (W.alloc (.cells #[.slice none 0 0] 101)) := (Only.refl _ _).alloc _
  have kA := heap_alloc_new W (.cells #[.slice none 0 0] 101)
  have hp := pairs_at _ (hh.only oA (fun _ _ => id))
  have hle := keysOf_le n ps hh.hn.2
  have HM := Lib.hid (fun x (hx : x ∈ keysOf n ps) => keysOf_mem hx)
  have HFIT := Lib.hid (fun (l : List En) => handL_le selH selH_le f room l (fun x => hh.fit x))
  obtain ⟨K, hK⟩ : ∃ K, K = keysOf n ps := ⟨_, rfl⟩
  rw [← hK] at hp hle HM HHand
  have HH := Lib.hid hh
  have hroom := hh.hroom.2
  have d0 := oA.cell c0 id
  have KA := Lib.hid kA
  have OA := Lib.hid oA
  have C01 := Lib.hid (And.intro c0 c1)
  have hlW := hW.size
  have HLB := Lib.hid (show b0 < W.heap.size ∧ b1 < W.heap.size from ⟨Nat.lt_of_lt_of_le hl0 hlW, Nat.lt_of_lt_of_le hl1 hlW⟩)
  clear hK hKeq H hh kA oA hW h0 h1 hnet c0 c1 hl0 hl1 hlW
  show Calls Try.prog 51 #[.func (.yield l) #[] #[], .pointer (some ⟨b0, 0, none⟩), .pointer (some ⟨b1, 0, none⟩)] W _
  refine callsIn_wide.1 (callsIn_of_wp_marks (F := Fence.wide) (n := 0) Try.func51 rfl trivial ?_)
  simp only [Try.ntmps51, List.size_toArray, List.length_cons, List.length_nil, Nat.reduceAdd, Nat.reduceSub, Array.replicate_succ, Array.replicate_zero, List.push_toArray, List.append_toArray, List.nil_append, List.cons_append]
  refine wpIn_wide.2 (wp_calm ?_)
  go_wp2_with (first | (go_at_call 40; refine hp.mono ?_; rintro e w1 ⟨v', rfl, hown, o1⟩; obtain ⟨ao, cap, rfl, hcells, hfresh⟩ := owns_cells hown) | fail)
  have HC := Lib.hid hcells
  have hCol : Col W w1 [] [] (.slice none 0 0) := ⟨o1.keep KA.out id, by simpa [flat3] using World.ownsRow_nil w1 (W.heap.size + 1) 103 3, List.nodup_nil, fun D hD => by simp at hD, fun D hD => by simp at hD, OA.out.trans o1 (fun _ _ h => h)⟩
  have HCOL := Lib.hid hCol
  have HF := Lib.hid (show ∀ k, ao = some ⟨k, 0, none⟩ → W.heap.size + 1 ≤ k ∧ k < w1.heap.size from fun k hk => by have := hfresh k hk; simp at this; omega)
  clear hp hown hcells hfresh o1 hCol KA OA d0
  refine wp_loop_marks [6, 13, 14, 15, 16, 17, 18, 19, 20, 21, 22, 23, 24, 32] (fun Ds us wr => ∃ i : Nat, us 13 = .int .i64 i ∧ i ≤ K.length ∧ Hid (∃ v, Col W wr (handL selH f (K.take i)) Ds v ∧ (∀ k, ao = some ⟨k, 0, none⟩ → v.ownBlock ≠ some k)) ∧ Hid (CellsE wr ao K)) (fun us _ => K.length - (intOf (us 13)).toNat) [] rfl ?_ ?_ ?_ ?_ ?_
  · exact ⟨0, rfl, Nat.zero_le _, ⟨_, HCOL.out, fun k _ => by simp [Value.ownBlock]⟩, HC.out⟩
  · simp only [putS, List.setIfInBounds_toArray, List.set_cons_zero, List.set_cons_succ]
    rfl
  · intro us us' w h
    rw [h 13 (by simp)]
  · intro us k hk
    simp only [List.mem_cons, List.not_mem_nil, or_false] at hk
    simp only [putS, List.setIfInBounds_toArray, List.set_cons_zero, List.set_cons_succ]
    rcases hk with rfl | rfl | rfl | rfl | rfl | rfl | rfl | rfl | rfl | rfl | rfl | rfl | rfl | rfl <;> rfl
  · rintro Ds us wr ⟨i, h13, hil, HCO, HCE⟩
    simp only [putS, List.setIfInBounds_toArray, List.set_cons_zero, List.set_cons_succ]
    rw [h13]
    generalize us 6 = u6
    generalize us 14 = u14
    generalize us 15 = u15
    generalize us 16 = u16
    generalize us 17 = u17
    generalize us 18 = u18
    generalize us 19 = u19
    generalize us 20 = u20
    generalize us 21 = u21
    generalize us 22 = u22
    generalize us 23 = u23
    generalize us 24 = u24
    generalize us 32 = u32
    by_cases hlt : i < K.length
    · obtain ⟨v, hcol, hvg⟩ := HCO.out
      obtain ⟨g, rfl, hcx⟩ := HCE.out (by omega)
      obtain ⟨⟨x1, x2⟩, hxe⟩ : ∃ x, x = K[i] := ⟨_, rfl⟩
      have x0 := (hcx i hlt).1
      have x1' := (hcx i hlt).2
      rw [atE_get K i hlt, ← hxe] at x0 x1'
      simp only at x0 x1'
      obtain ⟨q, hq⟩ := HM.out (x1, x2) (hxe ▸ List.getElem_mem hlt)
      have HQ := Lib.hid hq
      have hacc := handL_snoc selH f (K.take i) (x1, x2)
      have htk : K.take i ++ [(x1, x2)] = K.take (i + 1) := by rw [List.take_succ_eq_append_getElem hlt, ← hxe]
      rw [htk] at hacc
      have HACC := Lib.hid hacc
      have hfit := HFIT.out (K.take (i + 1))
      have hbd : (handL selH f (K.take (i + 1))).length ≤ 4194304 := by
        have h3 : (K.take (i + 1)).length * room ≤ 64 * 65536 := Nat.mul_le_mul (by simp; omega) hroom
        omega
      obtain ⟨acc, haccE⟩ : ∃ acc, acc = handL selH f (K.take i) := ⟨_, rfl⟩
      rw [← haccE] at hcol HACC
      obtain ⟨ys, hys⟩ : ∃ ys, ys = selH (f (x1, x2)) := ⟨_, rfl⟩
      rw [← hys] at HACC
      have HYS := Lib.hid hys
      have hlen3 : acc.length + ys.length ≤ 4194304 := by rw [HACC.out] at hbd; simpa using hbd
      have HCOL2 := Lib.hid hcol
      have HVG := Lib.hid (show v.ownBlock ≠ some g from hvg g rfl)
      clear hcx hxe hq hacc htk hfit hbd haccE hys hcol hvg HCO
      go_wp2_with (fail)
      have z := heap_alloc_new wr (Obj.cells #[Value.int IntKind.i64 x1, Value.int IntKind.i64 x2] 62)
      have o2 : Only (fun _ => False) wr (wr.alloc (Obj.cells #[Value.int IntKind.i64 x1, Value.int IntKind.i64 x2] 62)) := (Only.refl _ _).alloc _
      have hw2 : wr.heap.size < (wr.alloc (Obj.cells #[Value.int IntKind.i64 x1, Value.int IntKind.i64 x2] 62)).heap.size := by simp
      generalize wr.alloc (Obj.cells #[Value.int IntKind.i64 x1, Value.int IntKind.i64 x2] 62) = w2 at *
      have col2 := HCOL2.out.keep o2 (fun _ h _ => h) (fun _ _ h => h) (fun _ _ h => h)
      have ce2 := HCE.out.only o2 (fun _ _ h => h)
      obtain ⟨z0, z1⟩ := two_cells z
      have hh2 := HH.out.only col2.only (fun _ _ => id)
      have d2 := hh2.cells.2.2
      have c0 := col2.only.cell C01.out.1 id
      have c1 := col2.only.cell C01.out.2 id
      have COL2 := Lib.hid col2
      have CE2 := Lib.hid ce2
      have Z := Lib.hid z
      have HKB := Lib.hid hw2
      clear z o2 col2 ce2 hw2 x0 x1' HCOL2 HCE
      generalize wr.heap.size = kb at *
      have hl : ∀ k, (Instr.lookup 84 (.map (some mb)) (.agg #[.int .i64 x1, .int .i64 x2]) false).run Try.prog (w2.drewN k) = .ok (.pointer (some ⟨q, 0, none⟩)) (w2.drewN k) := fun k => by
        have h := run_look (hh2.map.only ((Only.refl (fun _ => False) w2).drewN k) id) (x1, x2)
        rw [lookV_mem hh2.map.nd HQ.out] at h
        exact h
      clear hh2
      refine wp_region_mixed [] [0, 1, 2, 3, 4, 5, 6] 7 [] (by kernel_rfl) (by kernel_rfl) (fun _ _ _ _ h => h) ?_
      simp only [pick, consO, List.getElem?_toArray, List.getElem?_cons_succ, List.getElem?_cons_zero, movesOf]
      iterate 7 (go_big_quiet_step (fail))
      refine wpQuiet_nil ?_
      rintro _ ⟨nq, rfl⟩
      have o3 : Only (fun _ => False) w2 (w2.drewN nq) := (Only.refl _ _).drewN nq
      have col3 := COL2.out.keep o3 (fun _ h _ => h) (fun _ _ h => h) (fun _ _ h => h)
      have ce3 := CE2.out.only o3 (fun _ _ h => h)
      have hh3 := HH.out.only col3.only (fun _ _ => id)
      clear hl
      have hq3 : QRep (w2.drewN nq) q (rb (x1, x2)) room (f (x1, x2)) := hh3.q _ HQ.out
      have Z3 : Hid ((w2.drewN nq).heap[kb]? = some (.cells #[.int .i64 x1, .int .i64 x2] 62 (0, 0))) := Z.out
      have HKB3 : Hid (kb < (w2.drewN nq).heap.size) := HKB.out
      have COL3 := Lib.hid col3
      have CE3 := Lib.hid ce3
      have HQ3 := Lib.hid hq3
      clear o3 col3 ce3 hh3 hq3 COL2 CE2 Z z0 z1 d2 c0 c1 HKB
      generalize w2.drewN nq = w3 at *
      go_wp2_with (first | (go_at_call 42; refine (heads_fun q _).mono ?_; rintro e w4 ⟨rfl, hw4⟩; have HW4 := Lib.hid hw4; clear hw4) | fail)
      have hw4 := HW4.out
      clear HW4
      have o4 : Only (fun _ => False) w3 w4 := by rw [hw4]; exact (Only.refl _ _).alloc _
      have hs4 : w4.heap.size = w3.heap.size + 1 := by rw [hw4]; simp
      have k4 : w4.cell? ⟨w3.heap.size, 0, none⟩ = some (.pointer (some ⟨q, 0, none⟩)) := by rw [hw4]; exact cell_of_one (heap_alloc_new _ _)
      have hit : Iter Try.prog 43 #[.pointer (some ⟨w3.heap.size, 0, none⟩)] encV ys w4 := by rw [HYS.out]; exact heads_iter1 w3.heap.size q (rb (x1, x2)) room (f (x1, x2)) w4 k4 (HQ3.out.only o4 id id)
      have COL4 := Lib.hid (COL3.out.keep o4 (fun _ h _ => h) (fun _ _ h => h) (fun _ _ h => h))
      have CE4 := Lib.hid (CE3.out.only o4 (fun _ _ h => h))
      have Z4 := Lib.hid (o4.keep Z3.out id)
      have HS4 := Lib.hid hs4
      clear hw4 o4 hs4 k4 COL3 CE3 Z3 HQ3
      refine wp_range (gf := 43) (encs := encV) (xs := ys) (lb := #[.pointer (some ⟨w3.heap.size, 0, none⟩)]) rfl (enters_of Try.func43 (by kernel_rfl) rfl) hit (fun x => rfl) ?_
      intro W0 hW0 hs0
      refine ⟨fun j Wr => j ≤ ys.length ∧ ∃ v, Col W Wr (acc ++ (ys.take j).map (fun y => ((x1, x2), y))) Ds v ∧ (∀ k, v.ownBlock = some k → (k < w4.heap.size ∨ W0.heap.size ≤ k) ∧ k ≠ g) ∧ Wr.heap[kb]? = some (.cells #[.int .i64 x1, .int .i64 x2] 62 (0, 0)) ∧ W0.heap.size ≤ Wr.heap.size ∧ CellsE Wr (some ⟨g, 0, none⟩) K, fun _ _ => False, ?_, ?_, fun _ _ _ h _ => h, ?_, ?_, fun _ _ _ _ _ h _ => h.elim⟩
      · have col0 := COL4.out.keep hW0 (fun _ h _ => h) (fun _ _ h => h) (fun _ _ h => h)
        exact ⟨Nat.zero_le _, v, by simpa using col0, fun k hk => ⟨.inl (COL4.out.row.lt k hk).2, fun e => HVG.out (e ▸ hk)⟩, hW0.keep Z4.out id, Nat.le_refl _, CE4.out.only hW0 (fun _ _ h => h)⟩
      · rintro j W1 W2 ⟨hj, v, hcol, hrow, hkb, hB, hce⟩ ho
        have hsz4 := COL4.out.only.size
        have hb4 := lt_of_block COL4.out.box
        have hkb4 := HKB3.out
        have hs4 := HS4.out
        have hgl : g < w4.heap.size := by
          obtain ⟨g', e, hc⟩ := CE4.out (by omega)
          cases e
          exact World.block_lt_of_cell? w4 _ (hc i hlt).1
        refine ⟨hj, v, hcol.keep ho (fun k h1 h2 => by have := h1.1; omega) (fun k hk h1 => by have := h1.1; have := h1.2; have := (hrow k hk).1; omega) (fun D hD h1 => by have := h1.1; have := lt_of_block (COL4.out.ds D hD); omega), hrow, ho.keep hkb (fun h1 => by have := h1.1; omega), by have := ho.size; omega, hce.only ho (fun k e h1 => by cases e; have := h1.1; omega)⟩
      · rintro l2 j hj Wr ⟨-, v, hcol, hrow, hkb, hB, hce⟩
        have hsz4 := COL4.out.only.size
        have hb4 := lt_of_block COL4.out.box
        have hkb4 := HKB3.out
        have hs4 := HS4.out
        obtain ⟨yj, hyj⟩ : ∃ y, y = ys[j] := ⟨_, rfl⟩
        rw [← hyj]
        simp only [encV]
        have HYJ := Lib.hid hyj
        have HCO := Lib.hid hcol
        have HRO := Lib.hid hrow
        have HKK := Lib.hid hkb
        have HCE := Lib.hid hce
        have HGL := Lib.hid (show g < w4.heap.size from by
          obtain ⟨g', e, hc⟩ := CE4.out (by omega)
          cases e
          exact World.block_lt_of_cell? w4 _ (hc i hlt).1)
        clear hyj hcol hrow hkb hce hW0 hit
        gi_wp2
        refine ⟨Kept.refl _ _ _, fun W2 ho => ?_⟩
        have hgl := HGL.out
        have col2 := HCO.out.keep ho (fun k h1 h2 => by have := h1.1; omega) (fun k hk h1 => by have := h1.1; have := h1.2; have := (HRO.out k hk).1; omega) (fun D hD h1 => by have := h1.1; have := lt_of_block (COL4.out.ds D hD); omega)
        have kb2 := ho.keep HKK.out (fun h1 => by have := h1.1; omega)
        have hB2 : W0.heap.size ≤ W2.heap.size := by have := ho.size; omega
        have CEW := Lib.hid (HCE.out.only ho (fun k e h1 => by cases e; have := h1.1; omega))
        obtain ⟨z0, z1⟩ := two_cells kb2
        have c4 := cell_of_one col2.box
        have f4 := free_of_one col2.box
        have hwsz : W.heap.size + 1 ≤ W2.heap.size := by have := lt_of_block col2.box; omega
        have HB : ∀ w5, (W2.alloc (.cells #[.int .i64 x1, .int .i64 x2, .int .i64 yj] 103)).grownBy w5 v.ownBlock → w5.heap[W.heap.size]? = some (.cells #[v] 101 (0, 0)) := fun w5 hg => by
          refine (hg.block _ (by simp; omega) (fun e => ?_)).trans (hp_alloc col2.box _)
          have := (col2.row.lt _ e.symm).1
          omega
        have HBH := Lib.hid HB
        have COLW := Lib.hid col2
        have KB2 := Lib.hid kb2
        obtain ⟨m, hm⟩ : ∃ m, m = (acc ++ (ys.take j).map (fun y => ((x1, x2), y))).length := ⟨_, rfl⟩
        have hmle : m + 1 ≤ 4194304 := by rw [hm]; simp; omega
        have hrow2 := col2.row
        rw [← hm] at hrow2
        have HROW := Lib.hid hrow2
        have HM2 := Lib.hid hm
        clear col2 kb2 HB ho HCO HKK HCE hm hrow2
        gi_wp2_with (gi_at_builtin; (refine wpListIn_append_ownF _ rfl (.tmp 26) (.tmp 30) 101 rfl (W.heap.size + 1) 103 i0 (.agg #[.int .i64 0, .int .i64 0, .int .i64 0]) 3 24 Try.underlying101 hi hz0 hz1 hz2 rfl (by decide) _ m _ rfl (HROW.out.alloc _) ⟨W2.heap.size, 0, none⟩ 1 1 [.int .i64 x1, .int .i64 x2, .int .i64 yj] rfl rfl (new_three _ _ _ _ _) (by simp [Value.oneCell']) (by unfold maxLen; omega) (by omega) (by simp; omega) ?_); intro v5 w5 hown5 hgrow hF5; obtain ⟨g5, cap5, rfl⟩ := ownsRow_succ hown5; have c5 := cell_of_one (HBH.out _ hgrow); have f5 := free_of_one (HBH.out _ hgrow))
        have hgr := hgrow
        have how := hown5
        have hF := hF5
        have hrl := COLW.out.row.lt
        have ho4 : Only (fun k => k = W.heap.size ∨ v.ownBlock = some k) W2 (w5.setCell ⟨W.heap.size, 0, none⟩ (.slice (some ⟨g5, 0, none⟩) (m + 1) cap5)) :=
          (((Only.refl _ W2).alloc _).grown hgr (fun k hk => .inl (.inr hk))).setCell (p := ⟨W.heap.size, 0, none⟩) (.inl (.inl rfl)) _
        have hro := HRO.out
        have hDne : ∀ D ∈ Ds, ¬ (D = W.heap.size ∨ v.ownBlock = some D) := fun D hD h => by
          rcases h with h | h
          · have h1 := COLW.out.ds D hD
            rw [h, COLW.out.box] at h1
            cases h1
          · exact row_ne COLW.out.row (COLW.out.ds D hD) h
        have eflat : flat3 (acc ++ (ys.take (j + 1)).map (fun y => ((x1, x2), y))) = flat3 (acc ++ (ys.take j).map (fun y => ((x1, x2), y))) ++ [.int .i64 x1, .int .i64 x2, .int .i64 yj] := by
          rw [List.take_succ_eq_append_getElem hj, ← HYJ.out, List.map_append, ← List.append_assoc, flat3_append]
          rfl
        have elen : (acc ++ (ys.take (j + 1)).map (fun y => ((x1, x2), y))).length = m + 1 := by
          rw [HM2.out, List.take_succ_eq_append_getElem hj, List.map_append, ← List.append_assoc]
          exact List.length_append
        have hkb5 : kb ≠ W.heap.size := fun e => by
          have h1 := KB2.out
          rw [e, COLW.out.box] at h1
          cases h1
        have hkrow : v.ownBlock ≠ some kb := fun e => by
          rcases COLW.out.row.2 with ⟨hv, _⟩ | ⟨g6, cap6, cur6, hv, _, hg6, _⟩
          · rw [hv] at e; simp [Value.ownBlock] at e
          · rw [hv] at e
            simp [Value.ownBlock] at e
            subst e
            rw [KB2.out] at hg6
            cases hg6
        refine ⟨ho4.kept (by omega) (fun k hk => ?_), by omega, _, ⟨one_setCell (HBH.out _ hgr), ?_, COLW.out.nd, fun D hD => ho4.keep (COLW.out.ds D hD) (hDne D hD), COLW.out.dlo, ?_⟩, ?_, ho4.keep KB2.out (fun h => h.elim hkb5 hkrow), ?_, ?_⟩
        · rcases hk with hk | hk
          · omega
          · have := (hro k hk).1; omega
        · rw [eflat, elen]
          exact ownsRow_setCell_below how (by show W.heap.size < W.heap.size + 1; omega) _
        · exact COLW.out.only.trans ho4 (fun q hq h => by
            rcases h with h | h
            · omega
            · have := hrl q h; omega)
        · intro k hk
          rcases hF k hk with h1 | h1
          · exact hro k h1
          · have h2 : (W2.alloc (.cells #[.int .i64 x1, .int .i64 x2, .int .i64 yj] 103)).heap.size = W2.heap.size + 1 := by simp
            omega
        · have := ho4.size; omega
        · exact CEW.out.only ho4 (fun k e h => by
            cases e
            rcases h with h | h
            · have h2 := (HF.out g rfl).1
              omega
            · exact (hro g h).2 rfl)
      · rintro D Wr hD1 hD2 ⟨-, v, hcol, hrow, hkb, hB, hce⟩ hK
        have hsz4 := COL4.out.only.size
        rw [List.take_length, ← HACC.out] at hcol
        have hDn : D ∉ Ds := fun hD => by have := lt_of_block (COL4.out.ds D hD); omega
        have HNEW : Hid (Col W Wr (handL selH f (K.take (i + 1))) (D :: Ds) v) := ⟨hcol.box, hcol.row, List.nodup_cons.2 ⟨hDn, hcol.nd⟩, fun D' hD' => by
          rcases List.mem_cons.1 hD' with rfl | hD'
          · exact hK
          · exact hcol.ds D' hD', fun D' hD' => by
          rcases List.mem_cons.1 hD' with rfl | hD'
          · omega
          · exact hcol.dlo D' hD', hcol.only⟩
        have HRG := Lib.hid (show ∀ k, (some ⟨g, 0, none⟩ : Option Addr) = some ⟨k, 0, none⟩ → v.ownBlock ≠ some k from fun k e h => by cases e; exact (hrow g h).2 rfl)
        have HCE2 := Lib.hid hce
        clear hcol hrow hkb hB hce hK hDn hit hW0
        go_wp2_with (fail)
        refine ⟨D :: Ds, _, rfl, rfl, ⟨i + 1, by first | rfl | go_num, by omega, ⟨v, HNEW.out, HRG.out⟩, HCE2.out⟩, ?_⟩
        simp [intOf]
        omega
    · obtain rfl : i = K.length := by omega
      obtain ⟨v, hcol, -⟩ := HCO.out
      rw [List.take_length] at hcol
      have hbd : (handL selH f K).length ≤ 4194304 := by
        have h3 : K.length * room ≤ 64 * 65536 := Nat.mul_le_mul hle hroom
        have := HFIT.out K
        omega
      obtain ⟨L, hL⟩ : ∃ L, L = handL selH f K := ⟨_, rfl⟩
      rw [← hL] at hcol hbd HHand
      obtain ⟨ao3, cap3, rfl, rg, hr3, hcell⟩ := rowT hcol.row
      obtain ⟨J, Jx, hJ0, hJs, hJxs, hY, hJd, hJxd⟩ := HHand.out wr hcol.only
      have c4 := cell_of_one hcol.box
      obtain ⟨n3, hn3⟩ : ∃ n3, n3 = L.length := ⟨_, rfl⟩
      rw [← hn3] at c4 hbd hr3
      have HN3 := Lib.hid hn3
      have HJ0 := Lib.hid hJ0
      have HJs := Lib.hid hJs
      have HJxs := Lib.hid hJxs
      have HY := Lib.hid hY
      have HJd := Lib.hid hJd
      have HJxd := Lib.hid hJxd
      have HR3 := Lib.hid hr3
      have HCELL := Lib.hid hcell
      have HMK := Lib.hid (show Ds.Nodup ∧ ∀ D ∈ Ds, wr.heap[D]? = some (.deferred (some [])) ∧ W.heap.size ≤ D ∧ D < wr.heap.size from ⟨hcol.nd, fun D hD => ⟨hcol.ds D hD, hcol.dlo D hD, lt_of_block (hcol.ds D hD)⟩⟩)
      have fin : ∀ W9, (∀ D ∈ Ds, W9.heap[D]? = some (.deferred (some []))) → (J n3 W9 ∨ Jx W9) → ∀ tmps, LeavesInM Fence.wide 0 Try.prog Try.f51 tmps (fun e W' => (∃ v, e = .returned v) ∧ R W') (marks Ds) .returning W9 := by
        intro W9 hD9 hj tmps
        refine leaves_marks Ds W9 HMK.out.1 hD9 (fun W' ho => ?_)
        have hsp : Only (Span W.heap.size wr.heap.size) W9 W' := ho.mono (fun k hk => ⟨(HMK.out.2 k hk).2.1, (HMK.out.2 k hk).2.2⟩)
        refine ⟨_, results_none rfl _ _ _, ⟨_, rfl⟩, ?_⟩
        rcases hj with hj | hj
        · exact HJd.out _ (by rw [← HN3.out]; exact HJs.out _ _ _ hj hsp)
        · exact HJxd.out _ (HJxs.out _ _ hj hsp)
      have FIN := Lib.hid fin
      clear fin hJ0 hJs hJxs hY hJd hJxd hcell hr3 hn3 hL HCO HCE HHand HCOL HC
      have hszW := hcol.only.size
      clear hcol
      go_wp2_with (fail)
      go_loopw [35] (fun vi wq => ∃ i2 : Nat, i2 ≤ n3 ∧ vi = .int .i64 i2 ∧ Hid (J i2 wq) ∧ Hid (∀ D ∈ Ds, wq.heap[D]? = some (.deferred (some []))) ∧ Hid (∀ j u, (flat3 L)[j]? = some u → wq.cell? ⟨rg, j, none⟩ = some u)) (fun vi _ => n3 - (intOf vi).toNat)
      case atStart => exact ⟨0, Nat.zero_le _, rfl, HJ0.out, fun D hD => (HMK.out.2 D hD).1, HCELL.out⟩
      case round =>
        obtain ⟨i2, hi2, rfl, HJ, HD, HCL⟩ := hrel
        by_cases hlt2 : i2 < n3
        · obtain ⟨rfl, hb3, hl3⟩ := HR3.out (by omega)
          have hiL : i2 < L.length := by rw [← HN3.out]; exact hlt2
          obtain ⟨e0, e1, e2⟩ := mem_cells HCL.out i2 hiL
          obtain ⟨⟨⟨y1, y2⟩, yv⟩, hx⟩ : ∃ x, x = L[i2] := ⟨_, rfl⟩
          rw [← hx] at e0 e1 e2
          simp only at e0 e1 e2
          have o6 : Only (fun _ => False) wr (wr.alloc (Obj.cells #[Value.int .i64 y1, Value.int .i64 y2, Value.int .i64 yv] 103)) := (Only.refl _ _).alloc _
          have hj6 := HJs.out i2 _ _ HJ.out (o6.mono (S' := Span W.heap.size _) (fun _ h => h.elim))
          obtain ⟨fn, tmps, assign, body, hy, hR⟩ := HY.out i2 hiL _ _ hj6 (Only.refl _ _)
          rw [← hx] at hy
          simp only [encH] at hy
          have z := heap_alloc_new wr (Obj.cells #[Value.int .i64 y1, Value.int .i64 y2, Value.int .i64 yv] 103)
          have z0 : (wr.alloc (Obj.cells #[Value.int .i64 y1, Value.int .i64 y2, Value.int .i64 yv] 103)).cell? ⟨wr.heap.size, 0, none⟩ = some (.int .i64 y1) := by rw [cell_of_row _ _ _ _ _ _ z]; rfl
          have z1 : (wr.alloc (Obj.cells #[Value.int .i64 y1, Value.int .i64 y2, Value.int .i64 yv] 103)).cell? ⟨wr.heap.size, 1, none⟩ = some (.int .i64 y2) := by rw [cell_of_row _ _ _ _ _ _ z]; rfl
          have z2 : (wr.alloc (Obj.cells #[Value.int .i64 y1, Value.int .i64 y2, Value.int .i64 yv] 103)).cell? ⟨wr.heap.size, 2, none⟩ = some (.int .i64 yv) := by rw [cell_of_row _ _ _ _ _ _ z]; rfl
          have HRR := Lib.hid hR
          have HD6 := Lib.hid (fun D hD => o6.keep (HD.out D hD) id)
          have HC6 := Lib.hid (fun j u hj => o6.cell (HCL.out j u hj) id)
          clear hx hR z HJ HD HCL hj6 o6
          go_upto_region 11 with fail
          refine (wpIn_wide (n := 0)).1 ?_
          gi_wp2
          refine ⟨rfl, HRR.out.mono ?_⟩
          rintro e W3 (⟨rfl, hk3, hj3⟩ | ⟨rfl, hk3, hx3⟩)
          · have HJ3 := Lib.hid hj3
            have HD3 := Lib.hid (show ∀ D ∈ Ds, W3.heap[D]? = some (.deferred (some [])) from fun D hD => (hk3 D (.inr (.inl ⟨(HMK.out.2 D hD).2.1, (HMK.out.2 D hD).2.2⟩))).trans (HD6.out D hD))
            have HC3 := Lib.hid (show ∀ j u, (flat3 L)[j]? = some u → W3.cell? ⟨rg, j, none⟩ = some u from fun j u hj => (World.cell?_of_block (hk3 rg (.inr (.inl ⟨by omega, hl3⟩)))).trans (HC6.out j u hj))
            clear hk3 hj3 hy HRR
            gi_wp2
            go_wp2
            go_roundw
            case rel => exact ⟨i2 + 1, by omega, by go_num, HJ3, HD3, HC3⟩
            case measure => simp [intOf]; omega
          · have HX3 := Lib.hid hx3
            have HD3 := Lib.hid (show ∀ D ∈ Ds, W3.heap[D]? = some (.deferred (some [])) from fun D hD => (hk3 D (.inr (.inl ⟨(HMK.out.2 D hD).2.1, (HMK.out.2 D hD).2.2⟩))).trans (HD6.out D hD))
            clear hk3 hx3 hy HRR
            gi_wp2
            go_wp2
            exact FIN.out W3 HD3.out (.inr HX3.out) _
        · obtain rfl : i2 = n3 := by omega
          go_wp2
          exact FIN.out _ HD.out (.inl HJ.out) _

end Go.Proofs.Ytflcdbefakjcbaa
