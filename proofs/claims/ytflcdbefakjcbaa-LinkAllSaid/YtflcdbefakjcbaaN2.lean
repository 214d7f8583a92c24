/- A range over a map from links to queues. No statement is proved here. -/
import Derived.Test.YtflcdbefakjcbaaN1
import Derived.Maps.RangeWalk
namespace Go.Proofs.Ytflcdbefakjcbaa
open Go.RowKit Go.Gav Go.BigFrame

theorem nodup_map {α β : Type} (f : α → β) {l : List α} (h : (l.map f).Nodup) : l.Nodup :=
  (List.pairwise_map.1 h).imp (fun hne e => hne (by rw [e]))

/-- What an entry is. -/
def decP (kv : Value × Value) : En × Nat :=
  match kv with
  | (.agg #[.int _ a, .int _ b], .pointer (some p)) => ((a, b), p.block)
  | _ => ((0, 0), 0)
theorem decP_mk (p : En × Nat) : decP (keyV p.1, ptrV p.2) = p := rfl
theorem decP_map (ps : List (En × Nat)) : (ps.map fun p => (keyV p.1, ptrV p.2)).map decP = ps := by
  rw [List.map_map]
  conv => rhs; rw [← List.map_id ps]
  rfl

/-- A range over the map at mb, its iterator at r: what has been handed out. -/
def Ranging (w : World) (mb r : Nat) (ps ys : List (En × Nat)) : Prop :=
  ∃ (es : Array MapEntry) (clock : Nat) (seen : Array Nat) (ks : List MapEntry), w.heap[mb]? = some (.map es clock) ∧ es.toList.map (fun e => (e.key, e.val)) = ps.map (fun p => (keyV p.1, ptrV p.2)) ∧ (es.toList.map (·.born)).Nodup ∧ (∀ e ∈ es.toList, e.born < clock) ∧ (ps.map (·.1)).Nodup ∧
    w.heap[r]? = some (.mapIter (some mb) clock seen clock) ∧ seen.toList = ks.map (·.born) ∧ ks.map (fun e => (e.key, e.val)) = ys.map (fun p => (keyV p.1, ptrV p.2)) ∧ (∀ k ∈ ks, k ∈ es.toList) ∧ (ks.map (·.born)).Nodup

theorem Ranging.pmap {w : World} {mb r : Nat} {ps ys : List (En × Nat)} (h : Ranging w mb r ps ys) : PMap w mb ps :=
  let ⟨es, clock, _, _, h1, h2, h3, h4, h5, _⟩ := h
  ⟨es, clock, h1, h2, h3, h4, h5⟩
theorem Ranging.only {S : Nat → Prop} {w w' : World} {mb r : Nat} {ps ys : List (En × Nat)} (h : Ranging w mb r ps ys) (ho : Only S w w') (h1 : ¬ S mb) (h2 : ¬ S r) : Ranging w' mb r ps ys :=
  let ⟨es, clock, seen, ks, g1, g2, g3, g4, g5, g6, g7⟩ := h
  ⟨es, clock, seen, ks, ho.keep g1 h1, g2, g3, g4, g5, ho.keep g6 h2, g7⟩
theorem Ranging.mem {w : World} {mb r : Nat} {ps ys : List (En × Nat)} (h : Ranging w mb r ps ys) : ∀ y ∈ ys, y ∈ ps := by
  obtain ⟨es, clock, seen, ks, g1, g2, g3, g4, g5, g6, g7, g8, g9, g10⟩ := h
  intro y hy
  have e1 : ks.map (fun e => decP (e.key, e.val)) = ys := by
    have := congrArg (List.map decP) g8
    rwa [decP_map, List.map_map] at this
  have e2 : es.toList.map (fun e => decP (e.key, e.val)) = ps := by
    have := congrArg (List.map decP) g2
    rwa [decP_map, List.map_map] at this
  rw [← e1] at hy
  obtain ⟨k, hk, rfl⟩ := List.mem_map.1 hy
  rw [← e2]
  exact List.mem_map.2 ⟨k, g9 k hk, rfl⟩
theorem Ranging.lt {w : World} {mb r : Nat} {ps ys : List (En × Nat)} (h : Ranging w mb r ps ys) : mb < w.heap.size ∧ r < w.heap.size ∧ r ≠ mb := by
  obtain ⟨es, clock, seen, ks, g1, g2, g3, g4, g5, g6, g7⟩ := h
  refine ⟨lt_of_block g1, lt_of_block g6, fun e => ?_⟩
  subst e
  rw [g1] at g6
  cases g6

theorem run_rangeP {w : World} {mb : Nat} {ps : List (En × Nat)} (h : PMap w mb ps) :
    ∃ o, (Instr.range 84 (.map (some mb))).run Try.prog w = .ok (.pointer (some ⟨w.heap.size, 0, none⟩)) (w.alloc o) ∧ Ranging (w.alloc o) mb w.heap.size ps [] := by
  obtain ⟨es, clock, hb, hm, hn, hc, hd⟩ := h
  exact ⟨_, run_range_map w 84 62 24 mb es clock Try.underlying84 hb, es, clock, #[], [], hp_alloc hb _, hm, hn, hc, hd, heap_alloc_new _ _, rfl, rfl, by simp, by simp⟩

theorem run_nextP {w : World} {mb r : Nat} {ps ys : List (En × Nat)} (h : Ranging w mb r ps ys) (ty : TypeId) :
    (ys.Perm ps ∧ (Instr.next (.pointer (some ⟨r, 0, none⟩)) false ty).run Try.prog w = .ok (.tuple #[.bool false]) w) ∨
    ∃ x q w', (x, q) ∈ ps ∧ (x, q) ∉ ys ∧ ys.length < ps.length ∧ (Instr.next (.pointer (some ⟨r, 0, none⟩)) false ty).run Try.prog w = .ok (.tuple #[.bool true, keyV x, ptrV q]) w' ∧ Ranging w' mb r ps (ys ++ [(x, q)]) ∧ Only (fun k => k = r) w w' ∧
      (Instr.entry (.pointer (some ⟨r, 0, none⟩))).run Try.prog w' = .ok (.tuple #[keyV x, ptrV q]) w' := by
  have hne := h.lt.2.2
  obtain ⟨es, clock, seen, ks, g1, g2, g3, g4, g5, g6, g7, g8, g9, g10⟩ := h
  have e1 : ks.map (fun e => decP (e.key, e.val)) = ys := by
    have := congrArg (List.map decP) g8
    rwa [decP_map, List.map_map] at this
  have e2 : es.toList.map (fun e => decP (e.key, e.val)) = ps := by
    have := congrArg (List.map decP) g2
    rwa [decP_map, List.map_map] at this
  have hseen : ∀ b, seen.contains b = true ↔ b ∈ ks.map (·.born) := fun b => by
    rw [← g7, Array.mem_toList_iff, Array.contains_iff_mem]
  rcases run_next_at (P := Try.prog) w ty r mb clock clock seen es clock g6 g1 g4 (Nat.le_refl _) with ⟨h0, hr⟩ | ⟨e, he, w1, hw1, hr⟩
  · left
    refine ⟨?_, hr⟩
    rw [← e1, ← e2]
    refine List.Perm.map _ ((List.perm_ext_iff_of_nodup (nodup_map _ g10) (nodup_map _ g3)).2 (fun x => ⟨g9 x, fun hx => ?_⟩))
    have hs := all_seen es seen h0 x hx
    obtain ⟨k, hk, hkb⟩ := List.mem_map.1 ((hseen _).1 hs)
    have : k = x := born_inj g3 (g9 k hk) hx hkb
    exact this ▸ hk
  · right
    obtain ⟨hm, hns⟩ := mem_left he
    have hpe : (e.key, e.val) ∈ ps.map fun p => (keyV p.1, ptrV p.2) := by rw [← g2]; exact List.mem_map.2 ⟨e, hm, rfl⟩
    obtain ⟨⟨x, q⟩, hp, hpv⟩ := List.mem_map.1 hpe
    have hk1 : e.key = keyV x := (Prod.mk.inj hpv).1.symm
    have hv1 : e.val = ptrV q := (Prod.mk.inj hpv).2.symm
    have hek : e ∉ ks := fun hh => by
      have := (hseen e.born).2 (List.mem_map.2 ⟨e, hh, rfl⟩)
      rw [hns] at this; cases this
    have hlt : ks.length < es.toList.length := by
      have hnd : (e :: ks).Nodup := List.nodup_cons.2 ⟨hek, nodup_map _ g10⟩
      have : ∀ (l m : List MapEntry), l.Nodup → (∀ z ∈ l, z ∈ m) → l.length ≤ m.length := by
        intro l
        induction l with
        | nil => intro m _ _; simp
        | cons a l ih =>
          intro m hn hs
          obtain ⟨m1, m2, rfl⟩ := List.append_of_mem (hs a (by simp))
          have h1 := ih (m1 ++ m2) (List.nodup_cons.1 hn).2 (fun z hz => by
            have h2 := hs z (by simp [hz])
            have h3 : z ≠ a := fun e => (List.nodup_cons.1 hn).1 (e ▸ hz)
            simp at h2 ⊢
            rcases h2 with h2 | h2 | h2
            · exact .inl h2
            · exact absurd h2 h3
            · exact .inr h2)
          simp at h1 ⊢
          omega
      have := this (e :: ks) es.toList hnd (fun z hz => by rcases List.mem_cons.1 hz with rfl | hz; exact hm; exact g9 z hz)
      rw [List.length_cons] at this
      omega
    have hblk : ∀ o k, k ≠ r → (ChangeMaps.setBlock w1 r o).heap[k]? = w.heap[k]? := fun o k hk => by
      have : (ChangeMaps.setBlock w1 r o).heap[k]? = w1.heap[k]? := by
        show (w1.heap.setIfInBounds r o)[k]? = _
        rw [Array.getElem?_setIfInBounds, if_neg (fun e => hk e.symm)]
      rw [this]
      rcases hw1 with rfl | rfl <;> rfl
    have hsz : w1.heap.size = w.heap.size := by rcases hw1 with rfl | rfl <;> rfl
    have hnew : ∀ o, (ChangeMaps.setBlock w1 r o).heap[r]? = some o := fun o => by
      show (w1.heap.setIfInBounds r o)[r]? = _
      have := lt_of_block g6
      rw [Array.getElem?_setIfInBounds, if_pos rfl, if_pos (by omega)]
    have hb2 : (ChangeMaps.setBlock w1 r (.mapIter (some mb) clock (seen.push e.born) clock)).heap[mb]? = some (.map es clock) := (hblk _ mb (fun e => hne e.symm)).trans g1
    refine ⟨x, q, _, hp, ?_, ?_, by rw [hr, hk1, hv1], ?_, ?_, ?_⟩
    · intro hy
      rw [← e1] at hy
      obtain ⟨k, hk, hkd⟩ := List.mem_map.1 hy
      have hke : (k.key, k.val) ∈ ps.map fun p => (keyV p.1, ptrV p.2) := by rw [← g2]; exact List.mem_map.2 ⟨k, g9 k hk, rfl⟩
      obtain ⟨p2, hp2, hpv2⟩ := List.mem_map.1 hke
      rw [← hpv2, decP_mk] at hkd
      subst hkd
      -- two entries with one key
      have hkk : k.key = e.key := by rw [hk1]; exact (Prod.mk.inj hpv2).1.symm
      have hinj : k = e := by
        have hkeys : (es.toList.map (fun e => (decP (e.key, e.val)).1)).Nodup := by
          have : es.toList.map (fun e => (decP (e.key, e.val)).1) = ps.map (·.1) := by rw [← e2, List.map_map]; rfl
          rw [this]; exact g5
        have hkv : (k.key, k.val) = (e.key, e.val) := by rw [← hpv2, ← hpv]
        have : ∀ (l : List MapEntry), (l.map (fun e => (decP (e.key, e.val)).1)).Nodup → k ∈ l → e ∈ l → k = e := by
          intro l
          induction l with
          | nil => intro _ h; cases h
          | cons a l ih =>
            intro hn h1 h2
            have hn' := List.nodup_cons.1 hn
            rcases List.mem_cons.1 h1 with rfl | h1'
            · rcases List.mem_cons.1 h2 with rfl | h2'
              · rfl
              · exact absurd (List.mem_map.2 ⟨e, h2', by rw [← hkv]⟩) hn'.1
            · rcases List.mem_cons.1 h2 with rfl | h2'
              · exact absurd (List.mem_map.2 ⟨k, h1', by rw [hkv]⟩) hn'.1
              · exact ih hn'.2 h1' h2'
        exact this es.toList hkeys (g9 k hk) hm
      exact hek (hinj ▸ hk)
    · have h1 : ys.length = ks.length := by rw [← e1]; simp
      have h2 : ps.length = es.toList.length := by rw [← e2]; simp
      omega
    · refine ⟨es, clock, seen.push e.born, ks ++ [e], hb2, g2, g3, g4, g5, hnew _, ?_, ?_, ?_, ?_⟩
      · rw [Array.toList_push, g7, List.map_append]; rfl
      · rw [List.map_append, List.map_append, g8]; simp [hk1, hv1]
      · intro k hk
        rcases List.mem_append.1 hk with hk | hk
        · exact g9 k hk
        · simp at hk; rw [hk]; exact hm
      · rw [List.map_append, List.nodup_append]
        refine ⟨g10, by simp, ?_⟩
        intro a ha b hb e3
        simp at hb
        subst hb
        rw [e3] at ha
        have := (hseen _).2 ha
        rw [hns] at this; cases this
    · refine ⟨?_, ?_, ?_, ?_, fun k _ hk => hblk _ k hk⟩
      · rcases hw1 with rfl | rfl <;> rfl
      · rcases hw1 with rfl | rfl <;> rfl
      · rcases hw1 with rfl | rfl <;> rfl
      · show w.heap.size ≤ (w1.heap.setIfInBounds r _).size
        simp [hsz]
    · have := run_entry_at (P := Try.prog) (ChangeMaps.setBlock w1 r (.mapIter (some mb) clock (seen.push e.born) clock)) r mb clock seen es clock e (hnew _) hb2 hm g3
      rw [this, hk1, hv1]

section
variable (w : World) {ops : Array Oper} {rest : List Oper} {o : Oper} {a : Act} {Q : Exit → Act → World → Prop}

/-- 'range m'. -/
theorem wpList_rangeP (hg : o.guard = none) (m : Operand) (hop : o.op = Op.range 84 m) (mb : Nat) (ps : List (En × Nat)) (hm : a.eval m = .map (some mb)) (h : PMap w mb ps)
    (hK : ∀ w', Ranging w' mb w.heap.size ps [] → Only (fun _ => False) w w' → w'.heap.size = w.heap.size + 1 → wpList Try.prog ops Q rest (a.put o.dst (.pointer (some ⟨w.heap.size, 0, none⟩))) w') :
    wpList Try.prog ops Q (o :: rest) a w := by
  refine wpList_plain hg fun K' hK' => ?_
  obtain ⟨ob, hrun, hr⟩ := run_rangeP h
  unfold Oper.wp
  simp [execOp, hop, hm, hrun, Result.andThen]
  exact hK' _ _ (hK _ hr ((Only.refl _ _).alloc _) (by simp))

/-- The step. -/
theorem wpList_nextP (hg : o.guard = none) (it : Operand) (hop : o.op = Op.next it false) (mb r : Nat) (ps ys : List (En × Nat)) (hit : a.eval it = .pointer (some ⟨r, 0, none⟩)) (h : Ranging w mb r ps ys)
    (hDone : ys.Perm ps → wpList Try.prog ops Q rest (a.put o.dst (.tuple #[.bool false])) w)
    (hMore : ∀ x q w', (x, q) ∈ ps → (x, q) ∉ ys → ys.length < ps.length → Ranging w' mb r ps (ys ++ [(x, q)]) → Only (fun k => k = r) w w' →
      (Instr.entry (.pointer (some ⟨r, 0, none⟩))).run Try.prog w' = .ok (.tuple #[keyV x, ptrV q]) w' → wpList Try.prog ops Q rest (a.put o.dst (.tuple #[.bool true, keyV x, ptrV q])) w') :
    wpList Try.prog ops Q (o :: rest) a w := by
  refine wpList_plain hg fun K' hK' => ?_
  unfold Oper.wp
  rcases run_nextP h o.type with ⟨h0, hrun⟩ | ⟨x, q, w', hp, hn, hl, hrun, hrg, ho, hen⟩
  · simp [execOp, hop, hit, hrun, Result.andThen]
    exact hK' _ _ (hDone h0)
  · simp [execOp, hop, hit, hrun, Result.andThen]
    exact hK' _ _ (hMore x q w' hp hn hl hrg ho hen)

end
end Go.Proofs.Ytflcdbefakjcbaa
