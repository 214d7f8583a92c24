/- The contracts of the net's Send. -/
import Derived.Test.YtflcdbefakjcbaaO1
import Derived.Deep.RegionHeld3
namespace Go.Proofs.Ytflcdbefakjcbaa
open Go.RowKit Go.Gav Go.BigFrame
variable {w w' : World} {S T : Nat → Prop} {xb n room mb : Nat} {f : Cont} {ps : List (En × Nat)} {rb : En → Nat} {own : Nat → Option En}

theorem send_bad (a b v : Int) (w : World) (h : Net w S xb n room f) (hbad : a < 0 ∨ n ≤ a ∨ b < 0 ∨ n ≤ b ∨ a = b) :
    Calls Try.prog 27 #[.pointer (some ⟨xb, 0, none⟩), .int .i64 a, .int .i64 b, .int .i64 v] w fun e w' => e = .returned (.int .i64 1) ∧ w' = w := by
  obtain ⟨mb, ps, rb, own, hh⟩ := h
  obtain ⟨c0, c1, c2⟩ := hh.cells
  clear hh c1 c2
  by_cases h1 : a < 0
  · have g1 : decide (a < 0) = true := by simp [h1]
    clear hbad
    go_enter Try.func27, Try.ntmps27
    go_wp2
    go_ret
    exact ⟨rfl, rfl⟩
  · by_cases h2 : (n : Int) ≤ a
    · have g1 : decide (a < 0) = false := by simp [h1]
      have g2 : decide ((n : Int) ≤ a) = true := by simp [h2]
      clear hbad
      go_enter Try.func27, Try.ntmps27
      go_wp2
      go_ret
      exact ⟨rfl, rfl⟩
    · by_cases h3 : b < 0
      · clear hbad
        go_enter Try.func27, Try.ntmps27
        go_wp2
        go_ret
        exact ⟨rfl, rfl⟩
      · by_cases h4 : (n : Int) ≤ b
        · clear hbad
          go_enter Try.func27, Try.ntmps27
          go_wp2
          go_ret
          exact ⟨rfl, rfl⟩
        · have h5 : a = b := by omega
          clear hbad
          subst h5
          go_enter Try.func27, Try.ntmps27
          go_wp2
          go_ret
          exact ⟨rfl, rfl⟩


/-- A link comes in. -/
theorem NetAt.add {x : En} {q : Nat} (h : NetAt w S xb n room f mb ps rb own) (hx : ∀ p ∈ ps, p.1 ≠ x) (hg : (0 ≤ x.1 ∧ x.1 < n) ∧ (0 ≤ x.2 ∧ x.2 < n) ∧ x.1 ≠ x.2) (ho : Only (fun k => k = mb) w w') (hm : PMap w' mb (ps ++ [(x, q)]))
    (hq : QRep w' q q room []) (hnew : w.heap.size ≤ q) :
    NetAt w' (fun k => S k ∨ k = q) xb n room f mb (ps ++ [(x, q)]) (fun y => if y = x then q else rb y) (fun k => if k = q then some x else own k) := by
  have hne : ∀ k, k < w.heap.size → k ≠ q := fun k hk e => by omega
  have hxm : ∀ k, own k ≠ none → k ≠ mb := fun k hk e => hk (e ▸ h.ownb.2)
  have hxb : xb ≠ mb := fun e => by
    have h1 := h.box
    obtain ⟨es, clock, h2, _⟩ := h.map
    rw [e, h2] at h1
    cases h1
  have hold : ∀ p ∈ ps, QRep w' p.2 (rb p.1) room (f p.1) := fun p hp => (h.q p hp).only ho (hxm _ (by rw [(h.ownq p hp).1]; simp)) (hxm _ (by rw [(h.ownq p hp).2]; simp))
  refine ⟨ho.keep h.box hxb, hm, fun p hp => ?_, fun y hy => h.off y (fun p hp => hy p (by simp [hp])), fun p hp => ?_, ⟨?_, ?_⟩, fun p hp => ?_, h.hn, h.hroom, ⟨.inl h.sb.1, .inl h.sb.2.1, fun p hp => ?_⟩, ?_⟩
  · rcases List.mem_append.1 hp with hp | hp
    · simp only [hx p hp, if_false]
      exact hold p hp
    · simp at hp
      subst hp
      simp only [if_true]
      rw [h.off x hx]; exact hq
  · rcases List.mem_append.1 hp with hp | hp
    · have hl := (h.q p hp).lt
      simp only [hx p hp, if_false, hne _ hl.1, hne _ hl.2]
      exact h.ownq p hp
    · simp at hp
      subst hp
      simp
  · simp [hne _ (h.lt _ h.sb.1), h.ownb.1]
  · simp [hne _ (h.lt _ h.sb.2.1), h.ownb.2]
  · rcases List.mem_append.1 hp with hp | hp
    · exact h.grid p hp
    · simp at hp
      subst hp
      exact hg
  · rcases List.mem_append.1 hp with hp | hp
    · simp only [hx p hp, if_false]
      exact ⟨.inl (h.sb.2.2 p hp).1, .inl (h.sb.2.2 p hp).2⟩
    · simp at hp
      subst hp
      simp
  · rintro k (hk | rfl)
    · exact Nat.lt_of_lt_of_le (h.lt k hk) ho.size
    · exact hq.lt.1

set_option maxRecDepth 100000 in
theorem send_good (a b v : Int) (w : World) (h : Net w S xb n room f) (ha : 0 ≤ a ∧ a < n) (hb : 0 ≤ b ∧ b < n) (hab : a ≠ b) :
    Calls Try.prog 27 #[.pointer (some ⟨xb, 0, none⟩), .int .i64 a, .int .i64 b, .int .i64 v] w fun e w' => e = .returned (.int .i64 (if room ≤ (f (a, b)).length then 14 else 0)) ∧
      (∃ S', Net w' S' xb n room (if room ≤ (f (a, b)).length then f else upd f (a, b) (f (a, b) ++ [v])) ∧ ∀ k, S' k → S k ∨ w.heap.size ≤ k) ∧ Only S w w' := by
  obtain ⟨mb, ps, rb, own, hh⟩ := h
  obtain ⟨c0, c1, c2⟩ := hh.cells
  have HH := Lib.hid hh
  obtain ⟨l, hlf⟩ : ∃ l, f (a, b) = l := ⟨_, rfl⟩
  rw [hlf]
  have h1 : ¬ a < 0 := by omega
  have h2 : ¬ (n : Int) ≤ a := by omega
  have h3 : ¬ b < 0 := by omega
  have h4 : ¬ (n : Int) ≤ b := by omega
  have hl := fun (w1 : World) (hm : PMap w1 mb ps) => run_look hm (a, b)
  simp only [keyV] at hl
  rcases hh.mem_or (a, b) with ⟨q, hq⟩ | hq
  · simp only [lookV_mem hh.map.nd hq, ptrV] at hl
    have HQ := Lib.hid hq
    clear hh hq ha hb
    go_enter Try.func27, Try.ntmps27
    go_wp2
    have z := heap_alloc_new w (Obj.cells #[Value.int IntKind.i64 a, Value.int IntKind.i64 b] 62)
    have o1 : Only (fun _ => False) w (w.alloc (Obj.cells #[Value.int IntKind.i64 a, Value.int IntKind.i64 b] 62)) := (Only.refl _ _).alloc _
    have hh1 := HH.out.only o1 (fun _ _ => id)
    generalize w.alloc (Obj.cells #[Value.int IntKind.i64 a, Value.int IntKind.i64 b] 62) = w1 at *
    obtain ⟨z0, z1⟩ := two_cells z
    obtain ⟨d0, d1, d2⟩ := hh1.cells
    have H1 := Lib.hid hh1
    have O1 := Lib.hid o1
    clear z o1 hh1 c0 c1 c2 HH
    refine wp_region_mixed [] [0, 1, 2, 3, 4] 5 [6] (by kernel_rfl) (by kernel_rfl) (fun _ _ _ _ h => h) ?_
    simp only [pick, consO, List.getElem?_toArray, List.getElem?_cons_succ, List.getElem?_cons_zero, movesOf]
    iterate 5 (go_big_quiet_step (fail))
    refine wpQuiet_nil ?_
    rintro _ ⟨nq, rfl⟩
    have hl1 := hl _ ((H1.out.map.only ((Only.refl (fun _ => False) _).drewN nq) id))
    go_wp2
    refine wp_region_mixed [6] [0, 1, 2, 3, 4] 5 [7, 8] (by kernel_rfl) (by kernel_rfl) (fun _ _ _ _ h => h) ?_
    simp only [pick, consO, List.getElem?_toArray, List.getElem?_cons_succ, List.getElem?_cons_zero, movesOf, moveOf]
    conv => arg 6; simp [Act.put, Act.eval]
    iterate 5 (go_big_quiet_step (fail))
    refine wpQuiet_nil ?_
    rintro _ ⟨nq2, rfl⟩
    rw [World.drewN_drewN]
    clear hl1
    generalize nq + nq2 = nq3
    have O2 := Lib.hid (O1.out.drewN nq3)
    have H2 := Lib.hid (H1.out.only ((Only.refl (fun _ => False) _).drewN nq3) (fun _ _ => id))
    have hl2 := hl _ H2.out.map
    have hqr : QRep _ q (rb (a, b)) room (f (a, b)) := H2.out.q _ HQ.out
    rw [hlf] at hqr
    clear hl H1 O1
    by_cases hfull : room ≤ l.length
    · have hp := q_push_full q (rb (a, b)) room l v _ hqr hfull
      have HF := Lib.hid hfull
      clear hqr hfull
      go_wp2_with (first | (go_at_call 14; refine hp.mono ?_; rintro e w2 ⟨rfl, o2⟩) | fail)
      go_ret
      have hfull := HF.out
      refine ⟨by simp, ⟨S, ?_, fun _ h => .inl h⟩, (O2.out.trans o2 (fun _ _ h => h)).mono (fun _ h => h.elim)⟩
      exact ⟨_, _, _, _, H2.out.only o2 (fun _ _ => id)⟩
    · have hp := q_push q (rb (a, b)) room l v _ hqr (by omega)
      have HF := Lib.hid hfull
      clear hqr hfull
      go_wp2_with (first | (go_at_call 14; refine hp.mono ?_; rintro e w2 ⟨rfl, rb', hq2, hr2, o2⟩) | fail)
      go_ret
      have hsb := H2.out.sb.2.2 _ HQ.out
      have hfull := HF.out
      refine ⟨by simp, ⟨fun k => S k ∨ k = rb', ?_, ?_⟩, ?_⟩
      · refine ⟨_, _, _, _, H2.out.upd HQ.out o2 hq2 ?_ (fun _ h => .inl h) (.inr rfl) ?_⟩
        · rcases hr2 with h | h
          · exact .inl h
          · exact .inr (.inr h)
        · rintro k (hk | rfl)
          · exact Nat.lt_of_lt_of_le (H2.out.lt k hk) o2.size
          · exact hq2.lt.2
      · rintro k (hk | rfl)
        · exact .inl hk
        · rcases hr2 with h | h
          · exact .inl (h ▸ hsb.2)
          · have := O2.out.size
            exact .inr (by omega)
      · exact (O2.out.mono (fun _ h => h.elim)).trans (o2.mono (S' := S) (fun k hk => by rcases hk with rfl | rfl; exact hsb.1; exact hsb.2)) (fun _ _ h => h)
  · have hl0 : l = [] := hlf.symm.trans (hh.off _ hq)
    subst hl0
    have hrm := hh.hroom
    have hnl := fun (w1 : World) (hm : PMap w1 mb ps) => run_look hm (a, b)
    simp only [keyV, lookV_not hq] at hnl
    have HQ := Lib.hid hq
    have HG := Lib.hid (show (0 ≤ a ∧ a < (n : Int)) ∧ (0 ≤ b ∧ b < (n : Int)) ∧ a ≠ b from ⟨ha, hb, hab⟩)
    have hne : xb ≠ mb := fun e => by
      have h1 := hh.box
      obtain ⟨es, clock, h2, _⟩ := hh.map
      rw [e, h2] at h1
      cases h1
    have HS := Lib.hid hh.sb.2.1
    have HNE := Lib.hid (And.intro hne (Nat.ne_of_gt hh.map.lt))
    clear hh hq ha hb hl hne
    go_enter Try.func27, Try.ntmps27
    go_wp2
    have z := heap_alloc_new w (Obj.cells #[Value.int IntKind.i64 a, Value.int IntKind.i64 b] 62)
    have o1 : Only (fun _ => False) w (w.alloc (Obj.cells #[Value.int IntKind.i64 a, Value.int IntKind.i64 b] 62)) := (Only.refl _ _).alloc _
    have hh1 := HH.out.only o1 (fun _ _ => id)
    generalize w.alloc (Obj.cells #[Value.int IntKind.i64 a, Value.int IntKind.i64 b] 62) = w1 at *
    obtain ⟨z0, z1⟩ := two_cells z
    obtain ⟨d0, d1, d2⟩ := hh1.cells
    have H1 := Lib.hid hh1
    have O1 := Lib.hid o1
    clear z o1 hh1 c0 c1 c2 HH
    refine wp_region_mixed [] [0, 1, 2, 3, 4] 5 [6] (by kernel_rfl) (by kernel_rfl) (fun _ _ _ _ h => h) ?_
    simp only [pick, consO, List.getElem?_toArray, List.getElem?_cons_succ, List.getElem?_cons_zero, movesOf]
    iterate 5 (go_big_quiet_step (fail))
    refine wpQuiet_nil ?_
    rintro _ ⟨nq, rfl⟩
    have hl1 := hnl _ ((H1.out.map.only ((Only.refl (fun _ => False) _).drewN nq) id))
    go_wp2
    have O2 := Lib.hid (O1.out.drewN nq)
    have hh2 := H1.out.only ((Only.refl (fun _ => False) _).drewN nq) (fun _ _ => id)
    clear hl1 hnl
    have z0' : (w1.drewN nq).cell? ⟨w.heap.size, 0, none⟩ = some (.int .i64 a) := z0
    have z1' : (w1.drewN nq).cell? ⟨w.heap.size, 1, none⟩ = some (.int .i64 b) := z1
    clear O1 H1 z0 z1 d0 d1 d2
    generalize w1.drewN nq = w2 at *
    obtain ⟨d0, d1, d2⟩ := hh2.cells
    have H2 := Lib.hid hh2
    clear hh2
    go_region_held3 (fun w' => w'.cell? ⟨xb, 1, none⟩ = some (.int .i64 room) ∧ w'.cell? ⟨xb, 2, none⟩ = some (.map (some mb)) ∧ w'.cell? ⟨w.heap.size, 0, none⟩ = some (.int .i64 a) ∧ w'.cell? ⟨w.heap.size, 1, none⟩ = some (.int .i64 b)) (first | exact ⟨d1, d2, z0', z1'⟩ | exact ⟨o3.cell d1 id, o3.cell d2 id, o3.cell z0' id, o3.cell z1' id⟩ | exact ⟨o4.cell (o3.cell d1 id) HNE.out.1, o4.cell (o3.cell d2 id) HNE.out.1, o4.cell (o3.cell z0' id) HNE.out.2, o4.cell (o3.cell z1' id) HNE.out.2⟩) (first | (go_at_call 13; refine (q_new room _ (by omega) (by omega)).mono ?_; rintro _ w3 ⟨rfl, hq3, o3⟩; obtain ⟨w4, hup, hm4, o4⟩ := run_put ((H2.out.map.only ((Only.refl (fun _ => False) _).drewN 1) id).only o3 id) (a, b) w2.heap.size HQ.out; simp only [keyV, ptrV] at hup))
    all_goals
      have o23 : Only (fun _ => False) w2 w3 := (Only.refl (fun _ => False) w2).drew.trans o3 (fun _ _ h => h)
      have hq4 : QRep w4 w2.heap.size w2.heap.size room [] := QRep.only hq3 o4 (fun e => by have := H2.out.lt _ H2.out.sb.2.1; have : w2.heap.size = mb := e; omega) (fun e => by have := H2.out.lt _ H2.out.sb.2.1; have : w2.heap.size = mb := e; omega)
      have o24 : Only (fun k => k = mb) w2 w4 := (o23.mono (S' := fun k => k = mb) (fun _ h => h.elim)).trans o4 (fun _ _ h => h)
      have hh4 := H2.out.add HQ.out HG.out o24 hm4 hq4 (Nat.le_refl _)
      have hin : ((a, b), w2.heap.size) ∈ ps ++ [((a, b), w2.heap.size)] := by simp
      have hl4 := fun (w1 : World) (hm : PMap w1 mb (ps ++ [((a, b), w2.heap.size)])) => run_look hm (a, b)
      simp only [keyV, lookV_mem hh4.map.nd hin, ptrV] at hl4
      obtain ⟨k1, k2, k3, k4⟩ := (show _ ∧ _ ∧ _ ∧ _ by assumption)
      have O4 := Lib.hid ((O2.out.mono (S' := fun k => k = mb) (fun _ h => h.elim)).trans o24 (fun _ _ h => h))
      have HH4 := Lib.hid hh4
      have HSZ := Lib.hid (And.intro O2.out.size o24.size)
      generalize w2.heap.size = qb at *
      clear hup hm4 o3 o4 o23 o24 hq3 hq4 hh4 d0 d1 d2 z0' z1' H2 O2
      go_wp2
      refine wp_region_mixed [6] [0, 1, 2, 3, 4] 5 [7, 8] (by kernel_rfl) (by kernel_rfl) (fun _ _ _ _ h => h) ?_
      simp only [pick, consO, List.getElem?_toArray, List.getElem?_cons_succ, List.getElem?_cons_zero, movesOf, moveOf]
      conv => arg 6; simp [Act.put, Act.eval]
      iterate 5 (go_big_quiet_step (fail))
      refine wpQuiet_nil ?_
      rintro _ ⟨nq2, rfl⟩
      have O5 := Lib.hid (O4.out.drewN nq2)
      have H5 := Lib.hid (HH4.out.only ((Only.refl (fun _ => False) _).drewN nq2) (fun _ _ => id))
      have hl5 := hl4 _ H5.out.map
      have hqr : QRep (w4.drewN nq2) qb qb room [] := by
        have := H5.out.q _ hin
        simpa [hlf] using this
      have HIN := Lib.hid hin
      have hp := q_push qb qb room [] v _ hqr (by simp; omega)
      clear hl4 hqr hin O4 HH4
      go_wp2_with (first | (go_at_call 14; refine hp.mono ?_; rintro e w6 ⟨rfl, rb', hq6, hr6, o6⟩) | fail)
      go_ret
      have hsb := H5.out.sb.2.2 _ HIN.out
      have hsz5 := O5.out.size
      have hsz := HSZ.out
      refine ⟨by simp, ⟨fun k => (S k ∨ k = qb) ∨ k = rb', ?_, ?_⟩, ?_⟩
      · refine ⟨_, _, _, _, H5.out.upd HIN.out (o6.mono (fun k hk => .inl (hk.elim id id))) hq6 ?_ (fun _ h => .inl h) (.inr rfl) ?_⟩
        · rcases hr6 with h | h
          · exact .inr (.inl h)
          · exact .inr (.inr h)
        · rintro k (hk | rfl)
          · exact Nat.lt_of_lt_of_le (H5.out.lt k hk) o6.size
          · exact hq6.lt.2
      · rintro k ((hk | rfl) | rfl)
        · exact .inl hk
        · exact .inr hsz.1
        · rcases hr6 with h | h
          · exact .inr (by omega)
          · exact .inr (by omega)
      · refine (O5.out.mono (S' := S) (fun k hk => ?_)).trans o6 (fun j hj h => by rcases h with rfl | rfl <;> omega)
        subst hk
        exact HS.out

end Go.Proofs.Ytflcdbefakjcbaa
