/- The contract of slices.SortedFunc at entries. -/
import Derived.Test.YtnhiohgcoifniaaS1
import Derived.Test.YtnhiohgcoifniaaS3
import Derived.Test.YtnhiohgcoifniaaLay
import Derived.Shelf.SlSortCmp.NoneTotal
namespace Go.Gav
open Go Go.RowKit Go.Sort Go.Proofs

/-- An entry's two cells. -/
def twoE (x : En) : List Value := [.int .i64 x.1, .int .i64 x.2]

theorem flatK_flat (L : List En) : (flatK twoE 2 L.toArray).toList = flat L := by
  refine List.ext_getElem? fun t => ?_
  by_cases ht : t < L.length * 2
  · have h1 : (flatK twoE 2 L.toArray).toList[t]? = some ((flatK twoE 2 L.toArray)[t]!) := by
      have hs : t < (flatK twoE 2 L.toArray).size := by simpa using ht
      rw [Array.getElem?_toList, Array.getElem?_eq_getElem hs, getElem!_pos _ t hs]
    rw [h1, get_flatK _ _ _ _ (by simpa using ht)]
    have hi : t / 2 < L.length := by omega
    have hg := flat_get L (t / 2) hi
    have hat : (L.toArray)[t / 2]! = atE L (t / 2) := by
      rw [getElem!_pos _ (t / 2) (by simpa using hi)]
      simp [atE, hi]
    rw [hat]
    rcases Nat.mod_two_eq_zero_or_one t with h | h
    · have e : t = t / 2 * 2 := by omega
      rw [h]
      conv => rhs; rw [e]
      rw [hg.1]; rfl
    · have e : t = t / 2 * 2 + 1 := by omega
      rw [h]
      conv => rhs; rw [e]
      rw [hg.2]; rfl
  · rw [List.getElem?_eq_none (by simp; omega), List.getElem?_eq_none (by rw [flat_length]; omega)]

theorem holdsK_of {w : World} {g t : Nat} {cur : Array Value} {L : List En} (hg : w.heap[g]? = some (.cells cur t (0, 0))) (ht : cur.toList.take (L.length * 2) = flat L) : HoldsK twoE 2 w g 0 L.toArray := by
  intro j hj
  have hj' : j < L.length * 2 := by simpa using hj
  refine ⟨?_, free_of_row hg⟩
  rw [cell_of_row w g (0 + j) _ _ _ hg, Nat.zero_add, getElem!_pos _ j hj]
  show _ = some _
  have e : cur[j]? = (flat L)[j]? := by rw [← ht, List.getElem?_take_of_lt hj', Array.getElem?_toList]
  rw [e, ← flatK_flat, Array.getElem?_toList, Array.getElem?_eq_getElem hj]; rfl

theorem sorted_row {w w' : World} {base g t n cap q : Nat} {os : Array Obj} {cur : Array Value} {S : List En} (hg : w.heap[g]? = some (.cells cur t (0, 0))) (hb : base ≤ g) (hcm : cap ≤ maxLen) (hc : cur.size = cap * 2) (hn : n ≤ cap) (hS : S.length = n)
    (hw : w' = sortWorldK twoE 2 w g 0 q S.toArray os) : w'.ownsRow base t 2 (.slice (some ⟨g, 0, none⟩) n cap) n (flat S) ∧ Only (fun k => k = g) w w' := by
  subst hw
  have hgs : g < w.heap.size := lt_of_block hg
  have hF : (flatK twoE 2 S.toArray).size = n * 2 := by simp [hS]
  have hh : ∀ k, k < w.heap.size → (sortWorldK twoE 2 w g 0 q S.toArray os).heap[k]? = if g = k then (w.heap[k]?).map (onCells (putCells id 0 (flatK twoE 2 S.toArray))) else w.heap[k]? := by
    intro k hk
    show ((w.heap.modify g (onCells (putCells id 0 (flatK twoE 2 S.toArray)))) ++ os)[k]? = _
    rw [Array.getElem?_append_left (by simpa using hk), Array.getElem?_modify]
  refine ⟨⟨by rw [flat_length, hS], .inr ⟨g, cap, putCells id 0 (flatK twoE 2 S.toArray) cur, rfl, hb, ?_, hn, hcm, by simp [putCells, hc], ?_⟩⟩, ⟨rfl, rfl, rfl, ?_, ?_⟩⟩
  · rw [hh g hgs, if_pos rfl, hg]; rfl
  · refine List.ext_getElem? fun t => ?_
    by_cases ht : t < n * 2
    · rw [List.getElem?_take_of_lt ht, Array.getElem?_toList]
      have hts : t < cur.size := by omega
      simp only [putCells, Array.getElem?_mapIdx, Array.getElem?_eq_getElem hts, Option.map_some]
      rw [if_pos ⟨Nat.zero_le _, by omega⟩, ← flatK_flat, Array.getElem?_toList, Nat.sub_zero, Array.getElem?_eq_getElem (by omega), getElem!_pos _ t (by omega)]
      rfl
    · rw [List.getElem?_eq_none (by simp; omega), List.getElem?_eq_none (by rw [flat_length]; omega)]
  · show w.heap.size ≤ ((w.heap.modify g _) ++ os).size
    simp
  · intro k hk hne
    rw [hh k hk, if_neg (fun e => hne e.symm)]

end Go.Gav
namespace Go.Proofs.Ytnhiohgcoifniaa
open Go.RowKit Go.Gav Go.BigFrame Go.Shelf Go.Sort

theorem ltOf_ord (x y : En) : ltOf ordE x y = decide (lessE x y) := by
  unfold ltOf ordE
  by_cases h1 : lessE x y
  · simp [h1]
  · by_cases h2 : lessE y x <;> simp [h1, h2]

theorem swo_ord : SWO (ltOf ordE) where
  irrefl x := by rw [ltOf_ord]; simp [lessE]
  trans x y z h1 h2 := by simp only [ltOf_ord, decide_eq_true_eq] at *; unfold lessE at *; omega
  ntrans x y z h1 h2 := by simp only [ltOf_ord, decide_eq_false_iff_not] at *; unfold lessE at *; omega
theorem tot_ord (x y : En) (h1 : ltOf ordE x y = false) (h2 : ltOf ordE y x = false) : x = y := by
  simp only [ltOf_ord, decide_eq_false_iff_not] at *
  unfold lessE at *
  exact Prod.ext (by omega) (by omega)

/-- A sorted permutation is the one. -/
theorem merge_is (L S : List En) (h : Holds L S) : L.mergeSort (fun x y => !ltOf ordE y x) = S := by
  refine List.Perm.eq_of_pairwise (le := fun a b => (!ltOf ordE b a) = true) ?_ ?_ ?_ ?_
  · intro a b _ _ h1 h2
    exact (tot_ord a b (by simpa using h2) (by simpa using h1))
  · refine List.pairwise_mergeSort ?_ ?_ L
    · intro a b c h1 h2
      have := swo_ord.ntrans c b a (by simpa using h2) (by simpa using h1)
      simp [this]
    · intro a b
      rw [ltOf_ord, ltOf_ord]
      by_cases h1 : lessE b a
      · have : ¬ lessE a b := by unfold lessE at *; omega
        simp [h1, this]
      · simp [h1]
  · refine List.Pairwise.imp ?_ h.sorted
    intro a b hab
    rw [ltOf_ord]
    have : ¬ lessE b a := by unfold lessE at *; omega
    simp [this]
  · exact (List.mergeSort_perm _ _).trans h.perm


theorem sort_call (w : World) (base : Nat) (v : Value) (L S : List En) (hLS : Holds L S) (hn : L.length ≤ 1000) (h : w.ownsRow base 40 2 v L.length (flat L)) :
    Calls Try.prog 38 #[v, .func (.func 10) #[] #[]] w fun e w' => e = .returned (.tuple #[]) ∧ w'.ownsRow base 40 2 v S.length (flat S) ∧ Only (fun k => base ≤ k) w w' := by
  have hlen := hLS.len
  rcases Nat.eq_zero_or_pos L.length with h0 | h0
  · have hS : S = [] := List.length_eq_zero_iff.1 (by omega)
    have hL : L = [] := List.length_eq_zero_iff.1 h0
    subst hS
    subst hL
    obtain ⟨p, cap, rfl⟩ : ∃ p cap, v = .slice p 0 cap := by
      rcases h.2 with ⟨hv, _⟩ | ⟨g, cap, cur, hv, _⟩
      · exact ⟨_, _, hv⟩
      · exact ⟨_, _, hv⟩
    have hc := AnyF.slices_SortFunc_none sortL p cap (.func (.func 10) #[] #[]) w
    change Calls Try.prog 38 _ _ _ at hc
    refine hc.mono ?_
    rintro e w' ⟨rfl, rfl⟩
    exact ⟨rfl, h, Only.refl _ _⟩
  · rcases h.2 with ⟨hv, hz⟩ | ⟨g, cap, cur, rfl, hb, hg, hnc, hcm, hcs, ht⟩
    · omega
    · have eg : ∀ args w, (callFunc 10 args).run Try.prog w = .ok (.enter 10 args) w := enters_of Try.func10 (by kernel_rfl) rfl
      have hcmp : CmpLays Try.prog 10 #[] twoE 2 ordE g 0 L.toArray.size w := fun m os dk _ x y => order_atG x y _
      have hc := AnyQ.slices_SortFunc_total sortL 2 (fun w => Try.isAgg40 w) (fun w => Try.sizeOf40 w) twoE (fun _ => rfl) (fun x v hv => by simp [twoE] at hv; rcases hv with rfl | rfl <;> rfl) ordE swo_ord 10 #[] g 0 cap L.toArray w eg hcmp (holdsK_of hg ht) (lt_of_block hg) (by simp; omega) tot_ord
      change Calls Try.prog 38 _ _ _ at hc
      refine hc.mono ?_
      rintro e w' ⟨he, q, os, hw⟩
      rw [show L.toArray.toList = L from rfl, merge_is L S hLS] at hw
      have h3 := sorted_row hg hb hcm hcs hnc hLS.len.symm hw
      refine ⟨he, ?_, h3.2.mono (fun k hk => hk ▸ hb)⟩
      rw [← hLS.len]
      exact h3.1

theorem sorted_at (bx : Nat) (ao : Option Addr) (cap : Nat) (L S : List En) (hLS : Holds L S) (w : World) (hbx : w.cell? ⟨bx, 0, none⟩ = some (.slice ao L.length cap)) (hr : CellsE w ao L) (hblk : ∀ k, ao = some ⟨k, 0, none⟩ → k < w.heap.size) (hn : L.length ≤ 1000) :
    Calls Try.prog 34 #[.func (.func 39) #[] #[.pointer (some ⟨bx, 0, none⟩)], .func (.func 10) #[] #[]] w fun e w' => ∃ v', e = .returned v' ∧ w'.ownsRow w.heap.size 40 2 v' S.length (flat S) ∧ Only (fun _ => False) w w' := by
  have eg : ∀ args w, (callFunc 39 args).run Try.prog w = .ok (.enter 39 args) w := enters_of Try.func39 (by kernel_rfl) rfl
  have hit := values_iter bx ao cap L w hbx hr hn
  have hbs : bx < w.heap.size := w.block_lt_of_cell? _ hbx
  have hcol := collectS _ 39 _ L w eg (fun k hk => hblk k hk) hit hn
  clear hit hr hbx
  go_enter Try.func34, Try.ntmps34
  go_wp2_with (fail)
  refine hcol.mono ?_
  rintro e w1 ⟨v, rfl, hown, o1⟩
  have hc := sort_call w1 w.heap.size v L S hLS hn hown
  have O1 := Lib.hid o1
  clear hcol hown o1
  go_wp2_with (fail)
  refine hc.mono ?_
  rintro e w2 ⟨rfl, hown, o2⟩
  have HOW := Lib.hid hown
  have O2 := Lib.hid o2
  clear hc hown o2
  go_wp2
  go_ret
  exact ⟨_, rfl, HOW.out, O1.out.trans O2.out (fun j hj h => by omega)⟩

end Go.Proofs.Ytnhiohgcoifniaa
