/- The contracts of the document's queue. -/
import Derived.Test.YtflcdbefakjcbaaA3
import Derived.Laws.AppendOwnNone
import Derived.Deep.RegionHeld
namespace Go.Proofs.Ytflcdbefakjcbaa
open Go.RowKit Go.Gav Go.BigFrame Go.Shelf

theorem addr1 (b off j : Nat) : (⟨b, off, none⟩ : Addr).add j = ⟨b, off + j, none⟩ := by simp [Addr.add]

/-- The document's queue at block mb, its items in block mg. -/
def MRep (w : World) (mb mg room : Nat) (xs : List Int) : Prop :=
  ∃ ao cap, w.heap[mb]? = some (.cells #[.int .i64 room, .slice ao xs.length cap] 38 (0, 0)) ∧ xs.length ≤ cap ∧ (ao = none → cap = 0) ∧ (∀ x, ao = some x → ∃ off, x = ⟨mg, off, none⟩) ∧ mg ≠ mb ∧ mg < w.heap.size ∧
    (∀ off, ao = some ⟨mg, off, none⟩ → ∀ i, i < xs.length → w.cell? ⟨mg, off + i, none⟩ = some (.int .i64 (xs.getD i 0)))

theorem MRep.only {w w' : World} {mb mg room : Nat} {xs : List Int} {S : Nat → Prop} (h : MRep w mb mg room xs) (ho : Only S w w') (hb : ¬ S mb) (hr : ¬ S mg) : MRep w' mb mg room xs :=
  let ⟨ao, cap, h1, h2, h3, h4, h5, h6, h7⟩ := h
  ⟨ao, cap, ho.keep h1 hb, h2, h3, h4, h5, Nat.lt_of_lt_of_le h6 ho.size, fun off e i hi => ho.cell (h7 off e i hi) hr⟩

theorem MRep.lt {w : World} {mb mg room : Nat} {xs : List Int} (h : MRep w mb mg room xs) : mb < w.heap.size ∧ mg < w.heap.size :=
  let ⟨_, _, h1, _, _, _, _, h6, _⟩ := h
  ⟨lt_of_block h1, h6⟩

theorem m_push_full (mb mg room : Nat) (xs : List Int) (x : Int) (w : World) (h : MRep w mb mg room xs) (hf : room ≤ xs.length) :
    Calls Try.prog 17 #[.pointer (some ⟨mb, 0, none⟩), .int .i64 x] w fun e w' => e = .returned (.int .i64 14) ∧ Only (fun _ => False) w w' := by
  obtain ⟨ao, cap, h1, -⟩ := h
  have c0 : w.cell? ⟨mb, 0, none⟩ = some (.int .i64 room) := by rw [cell_of_row w _ _ _ _ _ h1]; rfl
  have c1 : w.cell? ⟨mb, 1, none⟩ = some (.slice ao xs.length cap) := by rw [cell_of_row w _ _ _ _ _ h1]; rfl
  clear h1
  go_enter Try.func17, Try.ntmps17
  go_wp2
  go_quiet (fail)
  go_wp2
  go_ret
  exact ⟨rfl, (Only.refl _ _).drewN _⟩

theorem m_pop_none (mb mg room : Nat) (w : World) (h : MRep w mb mg room []) :
    Calls Try.prog 18 #[.pointer (some ⟨mb, 0, none⟩)] w fun e w' => e = .returned (.tuple #[.int .i64 0, .bool false]) ∧ Only (fun _ => False) w w' := by
  obtain ⟨ao, cap, h1, -⟩ := h
  have c1 : w.cell? ⟨mb, 1, none⟩ = some (.slice ao (0 : Nat) cap) := by rw [cell_of_row w _ _ _ _ _ h1]; rfl
  clear h1
  go_enter Try.func18, Try.ntmps18
  go_wp2
  go_ret2
  exact ⟨rfl, Only.refl _ _⟩

set_option maxHeartbeats 400000 in
theorem m_pop (mb mg room : Nat) (x : Int) (xs : List Int) (w : World) (h : MRep w mb mg room (x :: xs)) :
    Calls Try.prog 18 #[.pointer (some ⟨mb, 0, none⟩)] w fun e w' => e = .returned (.tuple #[.int .i64 x, .bool true]) ∧ MRep w' mb mg room xs ∧ Only (fun k => k = mb) w w' := by
  obtain ⟨ao, cap, h1, h2, h3, h4, h5, h6, h7⟩ := h
  have hao : ∃ off, ao = some ⟨mg, off, none⟩ := by
    cases ao with
    | none => have := h3 rfl; simp at h2; omega
    | some y => obtain ⟨off, rfl⟩ := h4 y rfl; exact ⟨off, rfl⟩
  obtain ⟨off, rfl⟩ := hao
  have h7' := h7 off rfl
  have c1 : w.cell? ⟨mb, 1, none⟩ = some (.slice (some ⟨mg, off, none⟩) (x :: xs).length cap) := by rw [cell_of_row w _ _ _ _ _ h1]; rfl
  have e0 : w.cell? ⟨mg, off, none⟩ = some (.int .i64 x) := by simpa using h7' 0 (by simp)
  have f1 : ∀ j, w.frozen? ⟨mb, j, none⟩ = false := fun j => free_of_row h1
  have hl : (x :: xs).length = xs.length + 1 := rfl
  have H1 := Lib.hid h1
  have H7 := Lib.hid h7'
  have HL := Lib.hid hl
  have hlt : mb < w.heap.size := lt_of_block h1
  obtain ⟨n, hn⟩ : ∃ n, n = (x :: xs).length := ⟨_, rfl⟩
  rw [← hn] at c1 h2
  have hn1 : 1 ≤ n := by rw [hn]; simp
  have HN := Lib.hid hn
  have hne : ((n : Int) == 0) = false := by simp; omega
  clear h1 h7 h7' hl h3 h4 hn
  have key : ∀ (ao' : Addr) (cap' : Nat), xs.length ≤ cap' → (∃ o', ao' = ⟨mg, o', none⟩ ∧ (0 < xs.length → o' = off + 1)) → MRep (w.setCell ⟨mb, 1, none⟩ (.slice (some ao') (n - 1) cap')) mb mg room xs ∧ Only (fun k => k = mb) w (w.setCell ⟨mb, 1, none⟩ (.slice (some ao') (n - 1) cap')) := by
    intro ao' cap' hcap hao
    have ho : Only (fun k => k = mb) w (w.setCell ⟨mb, 1, none⟩ (.slice (some ao') (n - 1) cap')) := (Only.refl _ _).setAt 1 _
    obtain ⟨o', rfl, ho'⟩ := hao
    refine ⟨⟨some ⟨mg, o', none⟩, cap', ?_, hcap, fun h => (by cases h), fun y hy => ⟨o', by cases hy; rfl⟩, h5, by simpa using h6, ?_⟩, ho⟩
    · have g := hp_same (j := 1) H1.out (.slice (some ⟨mg, o', none⟩) (n - 1) cap')
      have hn := HN.out
      simp only [List.length_cons] at hn
      have e : n - 1 = xs.length := by omega
      rw [e] at g ⊢
      simpa using g
    · intro o2 e i hi
      cases e
      have he := ho' (by omega)
      subst he
      refine ho.cell ?_ h5
      have := H7.out (i + 1) (by simp; omega)
      rw [show off + 1 + i = off + (i + 1) by omega]
      simpa using this
  have KEY := Lib.hid key
  have hcl : xs.length + 1 ≤ cap := by have := HN.out; simp only [List.length_cons] at this; omega
  have hxn : xs.length = n - 1 := by have := HN.out; simp only [List.length_cons] at this; omega
  have HXN := Lib.hid hxn
  clear key hxn
  by_cases hc : cap = 1
  · subst hc
    go_enter Try.func18, Try.ntmps18
    go_wp2
    go_ret2
    have e : n - 1 = 0 := by omega
    have k := KEY.out ⟨mg, off, none⟩ 0 (by omega) ⟨off, rfl, fun h => by have := HXN.out; omega⟩
    rw [e] at k
    exact ⟨rfl, k⟩
  · go_enter Try.func18, Try.ntmps18
    go_wp2
    go_ret2
    exact ⟨rfl, KEY.out ⟨mg, off + 1, none⟩ (cap - 1) (by omega) ⟨off + 1, rfl, fun _ => rfl⟩⟩

set_option maxRecDepth 100000 in
set_option maxHeartbeats 1000000 in
theorem m_push (mb mg room : Nat) (xs : List Int) (x : Int) (w : World) (h : MRep w mb mg room xs) (hf : xs.length < room) (hroom : room ≤ 1048576) :
    Calls Try.prog 17 #[.pointer (some ⟨mb, 0, none⟩), .int .i64 x] w fun e w' => e = .returned (.int .i64 0) ∧ ∃ mg', MRep w' mb mg' room (xs ++ [x]) ∧ w.heap.size ≤ mg' ∧ Only (fun k => k = mb) w w' := by
  obtain ⟨i0, hi, hz0, hz1, hz2⟩ := info_parts info3
  obtain ⟨ao, cap, h1, h2, h3, h4, h5, h6, h7⟩ := h
  have c0 : w.cell? ⟨mb, 0, none⟩ = some (.int .i64 room) := by rw [cell_of_row w _ _ _ _ _ h1]; rfl
  have c1 : w.cell? ⟨mb, 1, none⟩ = some (.slice ao xs.length cap) := by rw [cell_of_row w _ _ _ _ _ h1]; rfl
  have hlt : mb < w.heap.size := lt_of_block h1
  have H1 := Lib.hid h1
  obtain ⟨n, hn⟩ : ∃ n, n = xs.length := ⟨_, rfl⟩
  rw [← hn] at c1 hf h2
  have HN := Lib.hid hn
  -- what the copy of the items comes to
  have fin : ∀ (w2 w3 : World) (v : Value) (g cp : Nat), Only (fun _ => False) w w2 → w2.ownsRow w.heap.size 3 1 v n (xs.map (Value.int .i64)) → (w2.alloc (.cells #[.int .i64 x] 3)).grownBy w3 v.ownBlock →
      w3.ownsRow w.heap.size 3 1 (.slice (some ⟨g, 0, none⟩) (n + 1) cp) (n + 1) (xs.map (Value.int .i64) ++ [.int .i64 x]) →
      w3.cell? ⟨mb, 1, none⟩ = some (.slice ao n cap) ∧ w3.frozen? ⟨mb, 1, none⟩ = false ∧
      (∃ mg', MRep (w3.setCell ⟨mb, 1, none⟩ (.slice (some ⟨g, 0, none⟩) (n + 1) cp)) mb mg' room (xs ++ [x]) ∧ w.heap.size ≤ mg' ∧ Only (fun k => k = mb) w (w3.setCell ⟨mb, 1, none⟩ (.slice (some ⟨g, 0, none⟩) (n + 1) cp))) := by
    intro w2 w3 v g cp o2 own2 hgr own3
    have o3 : Only (fun _ => False) w w3 := (o2.alloc _).grown hgr (fun k hk => .inr (own2.lt k hk).1)
    have k3 := o3.keep H1.out id
    have o4 : Only (fun k => k = mb) w (w3.setCell ⟨mb, 1, none⟩ (.slice (some ⟨g, 0, none⟩) (n + 1) cp)) := Only.setAt (o3.mono (fun _ h => h.elim)) 1 _
    refine ⟨by rw [cell_of_row w3 _ _ _ _ _ k3]; rw [HN.out]; rfl, free_of_row k3, g, ?_, ?_, o4⟩
    · rcases own3.2 with ⟨hv, _⟩ | ⟨g', cap', cur, hv, hb, hgg, hnn, _, hs, ht⟩
      · cases hv
      · cases hv
        refine ⟨some ⟨g, 0, none⟩, cp, ?_, by simp; rw [← HN.out]; omega, fun h => (by cases h), fun y hy => ⟨0, by cases hy; rfl⟩, by omega, by have := lt_of_block hgg; simpa using this, ?_⟩
        · have e := hp_same (j := 1) k3 (.slice (some ⟨g, 0, none⟩) (n + 1) cp)
          have hl : (xs ++ [x]).length = n + 1 := by simp; rw [HN.out]
          rw [hl]
          simpa using e
        · intro o2 e i hi
          cases e
          rw [World.cell?_setCell_far _ _ _ _ (by show mb ≠ g; omega), Nat.zero_add, cell_of_row w3 g i _ _ _ hgg]
          have e2 : (cur.toList.take ((n + 1) * 1))[i]? = (xs.map (Value.int .i64) ++ [.int .i64 x])[i]? := by rw [ht]
          have hl : (xs ++ [x]).length = n + 1 := by simp; rw [HN.out]
          rw [List.getElem?_take, if_pos (by omega)] at e2
          rw [← Array.getElem?_toList, e2]
          rw [show xs.map (Value.int .i64) ++ [Value.int .i64 x] = (xs ++ [x]).map (Value.int .i64) by simp]
          simp only [List.getElem?_map, List.getD_eq_getElem?_getD]
          rw [List.getElem?_eq_getElem hi]
          rfl
    · rcases own3.2 with ⟨hv, _⟩ | ⟨g', cap', cur, hv, hb, _⟩
      · cases hv
      · cases hv; exact hb
  have FIN := Lib.hid fin
  clear fin h1 hn
  cases ao with
  | none =>
    have hc0 := h3 rfl
    have hn0 : n = 0 := by omega
    subst hn0
    subst hc0
    clear h2 h3 h4 h7
    go_enter Try.func17, Try.ntmps17
    go_wp2
    go_quiet (fail)
    have o2 : Only (fun _ => False) w (w.drewN nq) := (Only.refl _ _).drewN _
    have e2 : (w.drewN nq).cell? ⟨mb, 1, none⟩ = some (.slice none (0 : Nat) 0) := c1
    have hs2 : (w.drewN nq).heap.size = w.heap.size := rfl
    have O2 := Lib.hid o2
    have S2 := Lib.hid hs2
    clear o2 hs2 c0 c1
    generalize w.drewN nq = w2 at *
    have hb2 : w.heap.size ≤ w2.heap.size := Nat.le_of_eq S2.out.symm
    have hxs : xs = [] := List.eq_nil_of_length_eq_zero HN.out.symm
    have HXS := Lib.hid hxs
    clear hxs
    go_wp2_with (first
      | (at_builtin; refine wpList_append_own_none rfl (.tmp 16) (.tmp 20) 36 rfl w.heap.size 3 i0 1 Try.underlying36 hi _ 0 [] rfl (World.ownsRow_nil _ _ _ _) rfl ?_)
      | (at_builtin; refine wpList_append_own _ rfl (.tmp 23) (.tmp 25) 36 rfl w.heap.size 3 i0 (.int .i64 0) 1 8 Try.underlying36 hi hz0 hz1 hz2 rfl (by decide) _ 0 [] rfl (World.ownsRow_nil _ _ _ _) ⟨w2.heap.size, 0, none⟩ 1 1 [.int .i64 x] rfl rfl (cell_one_new _ _ _) (by simp [Value.oneCell']) (by unfold maxLen; omega) (by omega) (by simp; omega) ?_; intro v3 w3 own3 hgr _; obtain ⟨g3, cp3, rfl⟩ := ownsRow_succ own3; have F3 := Lib.hid (FIN.out w2 w3 _ g3 cp3 O2.out (by rw [HXS.out]; exact World.ownsRow_nil _ _ _ _) hgr (by rw [HXS.out]; exact own3)); have c3 := F3.out.1; have f3 := F3.out.2.1))
    go_ret
    exact ⟨rfl, F3.out.2.2⟩
  | some ad =>
    obtain ⟨off, rfl⟩ := h4 ad rfl
    have h7' := h7 off rfl
    have H7 := Lib.hid h7'
    clear h3 h4 h7 h7'
    go_enter Try.func17, Try.ntmps17
    go_wp2
    go_quiet (fail)
    have o2 : Only (fun _ => False) w (w.drewN nq) := (Only.refl _ _).drewN _
    have e2 : (w.drewN nq).cell? ⟨mb, 1, none⟩ = some (.slice (some ⟨mg, off, none⟩) n cap) := c1
    have hs2 : (w.drewN nq).heap.size = w.heap.size := rfl
    have O2 := Lib.hid o2
    have S2 := Lib.hid hs2
    clear o2 hs2 c0 c1
    generalize w.drewN nq = w2 at *
    have hb2 : w.heap.size ≤ w2.heap.size := Nat.le_of_eq S2.out.symm
    have HC : Hid (∀ j u, (xs.map (Value.int .i64))[j]? = some u → w2.cell? ((⟨mg, off, none⟩ : Addr).add j) = some u) := by
      intro j u hj
      have hj' : j < xs.length := by simpa using (List.getElem?_eq_some_iff.1 hj).1
      rw [addr1]
      rw [O2.out.cell (H7.out j hj') id]
      simp only [List.getElem?_map, List.getElem?_eq_getElem hj', Option.map_some] at hj
      rw [List.getD_eq_getElem?_getD, List.getElem?_eq_getElem hj']
      simpa using hj
    have HF : Hid (∀ v2 w3, w3.ownsRow w.heap.size 3 1 v2 (0 + n) ([] ++ xs.map (Value.int .i64)) → w2.grownBy w3 (Value.ownBlock (.slice none 0 0)) → Only (fun _ => False) w w3 ∧ w3.ownsRow w.heap.size 3 1 v2 n (xs.map (Value.int .i64)) ∧ w.heap.size ≤ w3.heap.size ∧ w3.cell? ⟨mb, 1, none⟩ = some (.slice (some ⟨mg, off, none⟩) n cap)) := by
      intro v2 w3 own hgr
      have o3 : Only (fun _ => False) w w3 := O2.out.grown hgr (fun k hk => by cases hk)
      refine ⟨o3, by rw [Nat.zero_add, List.nil_append] at own; exact own, o3.size, ?_⟩
      have k3 := o3.keep H1.out id
      rw [cell_of_row w3 _ _ _ _ _ k3, HN.out]; rfl
    go_wp2_with (first
      | (at_builtin; refine wpList_append_own _ rfl (.tmp 16) (.tmp 20) 36 rfl w.heap.size 3 i0 (.int .i64 0) 1 8 Try.underlying36 hi hz0 hz1 hz2 rfl (by decide) _ 0 [] rfl (World.ownsRow_nil _ _ _ _) ⟨mg, off, none⟩ n cap (xs.map (Value.int .i64)) rfl (by rw [HN.out]; simp) HC.out (by simp [Value.oneCell']) (by unfold maxLen; omega) (by omega) (by omega) ?_; intro v2 w3 own2 hgr2 _; have F2 := Lib.hid (HF.out v2 w3 own2 hgr2); have hb3 := F2.out.2.2.1)
      | (at_builtin; refine wpList_append_own _ rfl (.tmp 23) (.tmp 25) 36 rfl w.heap.size 3 i0 (.int .i64 0) 1 8 Try.underlying36 hi hz0 hz1 hz2 rfl (by decide) _ n _ rfl (F2.out.2.1.alloc _) ⟨w3.heap.size, 0, none⟩ 1 1 [.int .i64 x] rfl rfl (cell_one_new _ _ _) (by simp [Value.oneCell']) (by unfold maxLen; omega) (by omega) (by simp; omega) ?_; intro v4 w4 own4 hgr4 _; obtain ⟨g4, cp4, rfl⟩ := ownsRow_succ own4; have F4 := Lib.hid (FIN.out w3 w4 _ g4 cp4 F2.out.1 F2.out.2.1 hgr4 own4); have c4 := F4.out.1; have f4 := F4.out.2.1))
    go_ret
    exact ⟨rfl, F4.out.2.2⟩

end Go.Proofs.Ytflcdbefakjcbaa
