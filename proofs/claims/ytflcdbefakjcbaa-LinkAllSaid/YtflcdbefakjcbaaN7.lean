/- The contracts of slices.SortFunc and slices.SortedFunc at links, and of the net's pairs. -/
import Derived.Test.YtflcdbefakjcbaaN6
import Derived.Test.YtflcdbefakjcbaaLay
import Derived.Test.YtflcdbefakjcbaaO1
import Derived.Shelf.SlSortCmp.NoneTotal
namespace Go.Proofs.Ytflcdbefakjcbaa
open Go.RowKit Go.Gav Go.BigFrame Go.Shelf Go.Sort

/-- S has the links of L, in order. -/
structure SortOf (L S : List En) : Prop where
  sorted : S.Pairwise lessE
  perm : L.Perm S
theorem SortOf.len {L S : List En} (h : SortOf L S) : L.length = S.length := h.perm.length_eq

/-- An entry's two cells. -/
def twoE (x : En) : List Value := [.int .i64 x.1, .int .i64 x.2]

theorem flatK_flat (L : List En) : (flatK twoE 2 L.toArray).toList = flat L := by
  refine List.ext_getElem? fun t => ?_
  by_cases ht : t < L.length * 2
  · have h1 : (flatK twoE 2 L.toArray).toList[t]? = some ((flatK twoE 2 L.toArray)[t]!) := by
      have hs : t < (flatK twoE 2 L.toArray).size := by simpa using ht
      rw [Array.getElem?_toList, Array.getElem?_eq_getElem hs, getElem!_pos _ t hs]
    rw [h1, get_flatK _ _ _ _ (by simpa using ht)]
    have hi : t / 2 < L.length := by omega
    have hg := flat_get L (t / 2) hi
    have hat : (L.toArray)[t / 2]! = atE L (t / 2) := by
      rw [getElem!_pos _ (t / 2) (by simpa using hi)]
      simp [atE, hi]
    rw [hat]
    rcases Nat.mod_two_eq_zero_or_one t with h | h
    · have e : t = t / 2 * 2 := by omega
      rw [h]
      conv => rhs; rw [e]
      rw [hg.1]; rfl
    · have e : t = t / 2 * 2 + 1 := by omega
      rw [h]
      conv => rhs; rw [e]
      rw [hg.2]; rfl
  · rw [List.getElem?_eq_none (by simp; omega), List.getElem?_eq_none (by rw [flat_length]; omega)]

theorem holdsK_of {w : World} {g t : Nat} {cur : Array Value} {L : List En} (hg : w.heap[g]? = some (.cells cur t (0, 0))) (ht : cur.toList.take (L.length * 2) = flat L) : HoldsK twoE 2 w g 0 L.toArray := by
  intro j hj
  have hj' : j < L.length * 2 := by simpa using hj
  refine ⟨?_, free_of_row hg⟩
  rw [cell_of_row w g (0 + j) _ _ _ hg, Nat.zero_add, getElem!_pos _ j hj]
  show _ = some _
  have e : cur[j]? = (flat L)[j]? := by rw [← ht, List.getElem?_take_of_lt hj', Array.getElem?_toList]
  rw [e, ← flatK_flat, Array.getElem?_toList, Array.getElem?_eq_getElem hj]; rfl

theorem sorted_row {w w' : World} {base g t n cap q : Nat} {os : Array Obj} {cur : Array Value} {S : List En} (hg : w.heap[g]? = some (.cells cur t (0, 0))) (hb : base ≤ g) (hcm : cap ≤ maxLen) (hc : cur.size = cap * 2) (hn : n ≤ cap) (hS : S.length = n)
    (hw : w' = sortWorldK twoE 2 w g 0 q S.toArray os) : w'.ownsRow base t 2 (.slice (some ⟨g, 0, none⟩) n cap) n (flat S) ∧ Only (fun k => k = g) w w' := by
  subst hw
  have hgs : g < w.heap.size := lt_of_block hg
  have hF : (flatK twoE 2 S.toArray).size = n * 2 := by simp [hS]
  have hh : ∀ k, k < w.heap.size → (sortWorldK twoE 2 w g 0 q S.toArray os).heap[k]? = if g = k then (w.heap[k]?).map (onCells (putCells id 0 (flatK twoE 2 S.toArray))) else w.heap[k]? := by
    intro k hk
    show ((w.heap.modify g (onCells (putCells id 0 (flatK twoE 2 S.toArray)))) ++ os)[k]? = _
    rw [Array.getElem?_append_left (by simpa using hk), Array.getElem?_modify]
  refine ⟨⟨by rw [flat_length, hS], .inr ⟨g, cap, putCells id 0 (flatK twoE 2 S.toArray) cur, rfl, hb, ?_, hn, hcm, by simp [putCells, hc], ?_⟩⟩, ⟨rfl, rfl, rfl, ?_, ?_⟩⟩
  · rw [hh g hgs, if_pos rfl, hg]; rfl
  · refine List.ext_getElem? fun t => ?_
    by_cases ht : t < n * 2
    · rw [List.getElem?_take_of_lt ht, Array.getElem?_toList]
      have hts : t < cur.size := by omega
      simp only [putCells, Array.getElem?_mapIdx, Array.getElem?_eq_getElem hts, Option.map_some]
      rw [if_pos ⟨Nat.zero_le _, by omega⟩, ← flatK_flat, Array.getElem?_toList, Nat.sub_zero, Array.getElem?_eq_getElem (by omega), getElem!_pos _ t (by omega)]
      rfl
    · rw [List.getElem?_eq_none (by simp; omega), List.getElem?_eq_none (by rw [flat_length]; omega)]
  · show w.heap.size ≤ ((w.heap.modify g _) ++ os).size
    simp
  · intro k hk hne
    rw [hh k hk, if_neg (fun e => hne e.symm)]

theorem cmpI_neg (a b : Int) : cmpI a b < 0 ↔ a < b := by
  unfold cmpI; split
  · simp [*]
  · split <;> (constructor <;> intro h <;> omega)
theorem cmpI_zero (a b : Int) : cmpI a b = 0 ↔ a = b := by
  unfold cmpI; split
  · constructor <;> intro h <;> omega
  · split <;> (constructor <;> intro h <;> omega)
theorem ltOf_ord (x y : En) : ltOf ordE x y = decide (lessE x y) := by
  unfold ltOf ordE lessE
  have h1 := cmpI_zero x.1 y.1
  by_cases e : cmpI x.1 y.1 = 0
  · have h3 := h1.1 e
    have h2 := cmpI_neg x.2 y.2
    have h4 : cmpI y.1 y.1 = 0 := h3 ▸ e
    simp [h2, h3, h4]
  · have h2 := cmpI_neg x.1 y.1
    have h3 : ¬ x.1 = y.1 := fun h => e (h1.2 h)
    simp [h2, h3, e]

theorem swo_ord : SWO (ltOf ordE) where
  irrefl x := by rw [ltOf_ord]; simp [lessE]
  trans x y z h1 h2 := by simp only [ltOf_ord, decide_eq_true_eq] at *; unfold lessE at *; omega
  ntrans x y z h1 h2 := by simp only [ltOf_ord, decide_eq_false_iff_not] at *; unfold lessE at *; omega
theorem tot_ord (x y : En) (h1 : ltOf ordE x y = false) (h2 : ltOf ordE y x = false) : x = y := by
  simp only [ltOf_ord, decide_eq_false_iff_not] at *
  unfold lessE at *
  exact Prod.ext (by omega) (by omega)

/-- A sorted permutation is the one. -/
theorem merge_is (L S : List En) (h : SortOf L S) : L.mergeSort (fun x y => !ltOf ordE y x) = S := by
  refine List.Perm.eq_of_pairwise (le := fun a b => (!ltOf ordE b a) = true) ?_ ?_ ?_ ?_
  · intro a b _ _ h1 h2
    exact (tot_ord a b (by simpa using h2) (by simpa using h1))
  · refine List.pairwise_mergeSort ?_ ?_ L
    · intro a b c h1 h2
      have := swo_ord.ntrans c b a (by simpa using h2) (by simpa using h1)
      simp [this]
    · intro a b
      rw [ltOf_ord, ltOf_ord]
      by_cases h1 : lessE b a
      · have : ¬ lessE a b := by unfold lessE at *; omega
        simp [h1, this]
      · simp [h1]
  · refine List.Pairwise.imp ?_ h.sorted
    intro a b hab
    rw [ltOf_ord]
    have : ¬ lessE b a := by unfold lessE at *; omega
    simp [this]
  · exact (List.mergeSort_perm _ _).trans h.perm


theorem sort_call (w : World) (base : Nat) (v : Value) (L S : List En) (hLS : SortOf L S) (hn : L.length ≤ 1000) (h : w.ownsRow base 62 2 v L.length (flat L)) :
    Calls Try.prog 53 #[v, .func (.func 48) #[] #[]] w fun e w' => e = .returned (.tuple #[]) ∧ w'.ownsRow base 62 2 v S.length (flat S) ∧ Only (fun k => base ≤ k) w w' := by
  have hlen := hLS.len
  rcases Nat.eq_zero_or_pos L.length with h0 | h0
  · have hS : S = [] := List.length_eq_zero_iff.1 (by omega)
    have hL : L = [] := List.length_eq_zero_iff.1 h0
    subst hS
    subst hL
    obtain ⟨p, cap, rfl⟩ : ∃ p cap, v = .slice p 0 cap := by
      rcases h.2 with ⟨hv, _⟩ | ⟨g, cap, cur, hv, _⟩
      · exact ⟨_, _, hv⟩
      · exact ⟨_, _, hv⟩
    have hc := AnyF.slices_SortFunc_none sortL p cap (.func (.func 48) #[] #[]) w
    change Calls Try.prog 53 _ _ _ at hc
    refine hc.mono ?_
    rintro e w' ⟨rfl, rfl⟩
    exact ⟨rfl, h, Only.refl _ _⟩
  · rcases h.2 with ⟨hv, hz⟩ | ⟨g, cap, cur, rfl, hb, hg, hnc, hcm, hcs, ht⟩
    · omega
    · have eg : ∀ args w, (callFunc 48 args).run Try.prog w = .ok (.enter 48 args) w := enters_of Try.func48 (by kernel_rfl) rfl
      have hcmp : CmpLays Try.prog 48 #[] twoE 2 ordE g 0 L.toArray.size w := fun m os dk _ x y => order_at x y _
      have hc := AnyQ.slices_SortFunc_total sortL 2 (fun w => Try.isAgg62 w) (fun w => Try.sizeOf62 w) twoE (fun _ => rfl) (fun x v hv => by simp [twoE] at hv; rcases hv with rfl | rfl <;> rfl) ordE swo_ord 48 #[] g 0 cap L.toArray w eg hcmp (holdsK_of hg ht) (lt_of_block hg) (by simp; omega) tot_ord
      change Calls Try.prog 53 _ _ _ at hc
      refine hc.mono ?_
      rintro e w' ⟨he, q, os, hw⟩
      rw [show L.toArray.toList = L from rfl, merge_is L S hLS] at hw
      have h3 := sorted_row hg hb hcm hcs hnc hLS.len.symm hw
      refine ⟨he, ?_, h3.2.mono (fun k hk => hk ▸ hb)⟩
      rw [← hLS.len]
      exact h3.1



theorem sorted_at (bx mb : Nat) (ps : List (En × Nat)) (K : List En) (w : World) (hbx : w.cell? ⟨bx, 0, none⟩ = some (.map (some mb))) (hm : PMap w mb ps) (hK : SortOf (ps.map (·.1)) K) (hn : K.length ≤ 1000) :
    Calls Try.prog 46 #[.func (.func 54) #[] #[.pointer (some ⟨bx, 0, none⟩)], .func (.func 48) #[] #[]] w fun e w' => ∃ v', e = .returned v' ∧ w'.ownsRow w.heap.size 62 2 v' K.length (flat K) ∧ Only (fun _ => False) w w' := by
  have eg : ∀ args w, (callFunc 54 args).run Try.prog w = .ok (.enter 54 args) w := enters_of Try.func54 (by kernel_rfl) rfl
  have hlen := hK.len
  have hcol := collectU _ 54 _ _ w eg (fun k hk => by have := hm.lt; omega) (keys_iter bx mb ps w hbx hm) (by omega)
  have hbs : bx < w.heap.size := w.block_lt_of_cell? _ hbx
  clear hbx hm
  go_enter Try.func46, Try.ntmps46
  go_wp2_with (fail)
  refine hcol.mono ?_
  rintro e w1 ⟨v, ys, rfl, hperm, hown, o1⟩
  have hys : SortOf ys K := ⟨hK.sorted, hperm.trans hK.perm⟩
  have hc := sort_call w1 w.heap.size v ys K hys (by have := hys.len; omega) hown
  have O1 := Lib.hid o1
  clear hcol hown o1 hperm hys
  go_wp2_with (fail)
  refine hc.mono ?_
  rintro e w2 ⟨rfl, hown, o2⟩
  have HOW := Lib.hid hown
  have O2 := Lib.hid o2
  clear hc hown o2
  go_wp2
  go_ret
  exact ⟨_, rfl, HOW.out, O1.out.trans O2.out (fun j hj h => by omega)⟩

/-- All links, in order. -/
def gridE (n : Nat) : List En := (List.range n).flatMap fun (a : Nat) => (List.range n).map fun (b : Nat) => (((a : Int), (b : Int)) : En)

theorem mem_grid {n : Nat} {x : En} : x ∈ gridE n ↔ (0 ≤ x.1 ∧ x.1 < n) ∧ (0 ≤ x.2 ∧ x.2 < n) := by
  unfold gridE
  simp only [List.mem_flatMap, List.mem_map, List.mem_range]
  constructor
  · rintro ⟨a, ha, b, hb, rfl⟩
    simp; omega
  · rintro ⟨⟨h1, h2⟩, h3, h4⟩
    refine ⟨x.1.toNat, by omega, x.2.toNat, by omega, ?_⟩
    rw [Int.toNat_of_nonneg h1, Int.toNat_of_nonneg h3]

theorem sorted_grid (n : Nat) : (gridE n).Pairwise lessE := by
  unfold gridE
  refine List.pairwise_flatMap.2 ⟨fun a _ => List.pairwise_map.2 ?_, ?_⟩
  · exact List.Pairwise.imp (fun h => .inr ⟨rfl, by simpa using h⟩) List.pairwise_lt_range
  · refine List.Pairwise.imp ?_ List.pairwise_lt_range
    intro a b h x hx y hy
    obtain ⟨c, _, rfl⟩ := List.mem_map.1 hx
    obtain ⟨d, _, rfl⟩ := List.mem_map.1 hy
    left
    simpa using h

theorem nodup_sorted {l : List En} (h : l.Pairwise lessE) : l.Nodup :=
  h.imp (fun h e => by subst e; unfold lessE at h; omega)

/-- The links that are in the map, in order. -/
def keysOf (n : Nat) (ps : List (En × Nat)) : List En := (gridE n).filter fun x => decide (x ∈ ps.map (·.1))

theorem keysOf_sort {n : Nat} {ps : List (En × Nat)} (hnd : (ps.map (·.1)).Nodup) (hg : ∀ p ∈ ps, (0 ≤ p.1.1 ∧ p.1.1 < n) ∧ (0 ≤ p.1.2 ∧ p.1.2 < n)) : SortOf (ps.map (·.1)) (keysOf n ps) := by
  have hs : (keysOf n ps).Pairwise lessE := (sorted_grid n).filter _
  refine ⟨hs, (List.perm_ext_iff_of_nodup hnd (nodup_sorted hs)).2 (fun x => ?_)⟩
  unfold keysOf
  rw [List.mem_filter]
  constructor
  · intro h
    refine ⟨?_, by simpa using h⟩
    obtain ⟨p, hp, rfl⟩ := List.mem_map.1 h
    exact mem_grid.2 (hg p hp)
  · rintro ⟨_, h⟩
    simpa using h

theorem keysOf_le (n : Nat) (ps : List (En × Nat)) (hn : n ≤ 8) : (keysOf n ps).length ≤ 64 := by
  have h1 : (keysOf n ps).length ≤ (gridE n).length := List.length_filter_le _ _
  have hs : ∀ l : List Nat, (l.map fun _ => n).sum = l.length * n := by
    intro l
    induction l with
    | nil => simp
    | cons a l ih => simp [Nat.add_mul, ih, Nat.add_comm]
  have h2 : (gridE n).length = n * n := by simp [gridE, List.length_flatMap, hs]
  have h3 : n * n ≤ 8 * 8 := Nat.mul_le_mul hn hn
  omega

theorem pairs_at {S : Nat → Prop} {xb n room mb : Nat} {f : Cont} {ps : List (En × Nat)} {rb : En → Nat} {own : Nat → Option En} (w : World) (h : NetAt w S xb n room f mb ps rb own) :
    Calls Try.prog 40 #[.pointer (some ⟨xb, 0, none⟩)] w fun e w' => ∃ v', e = .returned v' ∧ w'.ownsRow w.heap.size 62 2 v' (keysOf n ps).length (flat (keysOf n ps)) ∧ Only (fun _ => False) w w' := by
  obtain ⟨c0, c1, c2⟩ := h.cells
  have HSO := Lib.hid (keysOf_sort (n := n) h.map.nd (fun p hp => ⟨(h.grid p hp).1, (h.grid p hp).2.1⟩))
  have hle := keysOf_le n ps h.hn.2
  have o1 : Only (fun _ => False) w (w.alloc (.cells #[.map (some mb)] 84)) := (Only.refl _ _).alloc _
  have hc := sorted_at w.heap.size mb ps (keysOf n ps) _ (cell_of_one (heap_alloc_new w (.cells #[.map (some mb)] 84))) (h.map.only o1 id) HSO.out (by omega)
  have O1 := Lib.hid o1
  clear o1 h
  go_enter Try.func40, Try.ntmps40
  go_wp2_with (first | (go_at_call 47; refine (keys_call _ _).mono ?_; rintro e w1 ⟨rfl, rfl⟩) | (go_at_call 46; refine hc.mono ?_; rintro e w2 ⟨v', rfl, hown, o2⟩) | fail)
  go_ret
  refine ⟨_, rfl, ?_, O1.out.trans o2 (fun _ _ h => h)⟩
  refine ⟨hown.1, ?_⟩
  rcases hown.2 with hv | ⟨g, cap, cur, hv, hb, rest⟩
  · exact .inl hv
  · exact .inr ⟨g, cap, cur, hv, by simp at hb; omega, rest⟩

theorem pairs_nil (w : World) : Calls Try.prog 40 #[.pointer none] w fun e w' => e = .returned (.slice none 0 0) ∧ w' = w := by
  go_enter Try.func40, Try.ntmps40
  go_wp2
  go_ret
  exact ⟨rfl, rfl⟩

end Go.Proofs.Ytflcdbefakjcbaa
