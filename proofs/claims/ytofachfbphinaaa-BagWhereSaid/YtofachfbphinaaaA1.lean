/- The contracts of slices.Clone at []int and of the bag's iterator. -/
import Derived.Test.YtofachfbphinaaaApp
import Derived.Test.YtofachfbphinaaaRng
import Derived.Deep.Cut
import Derived.WalkSpells
import Derived.OwnWalkIn
import Derived.TacticsInMore
import Derived.LoopNIn
import Derived.LoopIn
import Derived.RangeFuncBox
import Derived.Shelf.RegionOpen
namespace Go.Proofs.Ytofachfbphinaaa
open Go.RowKit Go.Gav Go.BigFrame Go.Shelf
attribute [local go_sem] Oper.semAt_some

set_option maxRecDepth 100000 in
theorem clone_at (v : Value) (xs : List Int) (w : World) (h : w.ownsRow 0 3 1 v xs.length (flatI xs)) (hn : xs.length ≤ 1000) :
    Calls Try.prog 39 #[v] w fun e w' => ∃ v', e = .returned v' ∧ w'.ownsRow w.heap.size 3 1 v' xs.length (flatI xs) ∧ Only (fun _ => False) w w' := by
  obtain ⟨i0, hi, hz0, hz1, hz2⟩ := info_parts info3
  obtain ⟨ao, cap, rfl, hr, _⟩ := readsI_row h
  have hrow := h
  cases ao with
  | none =>
    have hxs : xs = [] := by
      cases xs with
      | nil => rfl
      | cons x xs => obtain ⟨g, hg, _⟩ := hr (by simp); cases hg
    subst hxs
    have hcap : cap = 0 := by
      rcases h.2 with ⟨hv, _⟩ | ⟨g, c, cur, hv, _⟩
      · injection hv
      · injection hv with hv; cases hv
    subst hcap
    have hen := fun (w : World) => Lib.run_eql_slice_nil (P := Try.prog) w 22 3 none 0 0 0 0 Try.underlying22
    clear h hr hrow
    show Calls Try.prog 39 #[.slice none 0 0] w _
    go_enter Try.func39, Try.ntmps39
    go_wp2
    go_ret
    exact ⟨.slice none 0 0, rfl, World.ownsRow_nil _ _ _ _, Only.refl _ _⟩
  | some ad =>
    have hen := fun (w : World) => Lib.run_eql_slice_nil (P := Try.prog) w 22 3 (some ad) xs.length cap 0 0 Try.underlying22
    have HN := Lib.hid (show ∀ W, Only (fun _ => False) w W → 0 < xs.length → ∃ aa, some ad = some aa ∧ ∀ j u, (flatI xs)[j]? = some u → W.cell? (aa.add j) = some u from fun W hW h0 => by
      obtain ⟨g, hg, hc⟩ := hr h0
      refine ⟨ad, rfl, fun j u hj => ?_⟩
      injection hg with hg
      subst hg
      have hlt : j < xs.length := by
        have := (List.getElem?_eq_some_iff.1 hj).1
        rwa [flatI_length, Nat.mul_one] at this
      rw [addr_add, Nat.zero_add]
      have h2 := flatI_get xs j hlt
      rw [h2] at hj
      cases hj
      exact hW.cell (hc j hlt) id)
    clear h hr hrow
    go_enter Try.func39, Try.ntmps39
    go_wp2_with (at_builtin; refine wpList_append_any rfl (.tmp 5) (.tmp 6) 22 rfl w.heap.size 3 i0 (.int .i64 0) 1 8 Try.underlying22 hi hz0 hz1 hz2 rfl (by decide) _ 0 [] rfl (World.ownsRow_made w #[] 0 (Nat.le_refl _) (by simp [maxLen]) rfl) (some ad) xs.length cap (flatI xs) rfl (flatI_length xs) (HN.out _ ((Only.refl (fun _ => False) w).alloc _)) flatI_one (by unfold maxLen; omega) (by omega) (by simp) ?_; intro v2 w2 own2 gr2)
    go_ret
    refine ⟨v2, rfl, by simpa using own2, ((Only.refl (fun _ => False) w).alloc _).grown gr2 (fun k hk => .inr (by cases hk; exact Nat.le_refl _))⟩

theorem row_kept {A B : Nat} {w w' : World} {b e k n : Nat} {v : Value} {xs : List Value} (h : w.ownsRow b e k v n xs) (hk : Kept A B w w') (hS : ∀ g, v.ownBlock = some g → A ≤ g ∧ g < B) : w'.ownsRow b e k v n xs := by
  refine ⟨h.1, ?_⟩
  rcases h.2 with hn | ⟨g, cap, cur, hv, hb, hg, rest⟩
  · exact .inl hn
  · have h1 := hS g (by rw [hv]; rfl)
    exact .inr ⟨g, cap, cur, hv, hb, (hk g h1.1 h1.2).trans hg, rest⟩

theorem all_call (q : Option Addr) (w : World) :
    Calls Try.prog 15 #[.pointer q] w fun e w' => e = .returned (.func (.func 38) #[] #[.pointer (some ⟨w.heap.size, 0, none⟩)]) ∧ w' = w.alloc (.cells #[.pointer q] 25) := by
  go_enter Try.func15, Try.ntmps15
  go_wp2
  go_ret
  exact ⟨rfl, rfl⟩

/-- The items with their places. -/
def places (xs : List Int) : List (Nat × Int) := (List.range xs.length).map fun i => (i, xs.getD i 0)
theorem places_length (xs : List Int) : (places xs).length = xs.length := by simp [places]
theorem places_get (xs : List Int) (i : Nat) (h : i < (places xs).length) : (places xs)[i] = (i, xs.getD i 0) := by simp [places]
/-- What a round is handed. -/
def encP (p : Nat × Int) : Array Value := #[.int .i64 p.1, .int .i64 p.2]

theorem all_iter_nil (bx : Nat) (w : World) (hbx : w.cell? ⟨bx, 0, none⟩ = some (.pointer none)) : Iter Try.prog 38 #[.pointer (some ⟨bx, 0, none⟩)] encP (places []) w := by
  intro l W hW R H
  have hc := hW.cell hbx id
  obtain ⟨J, Jx, h0, _, _, _, h1, _⟩ := H W (Only.refl _ _)
  have HR := Lib.hid (h1 W h0)
  clear H h0 h1
  show Calls Try.prog 38 #[.func (.yield l) #[] #[], .pointer (some ⟨bx, 0, none⟩)] W _
  go_enter Try.func38, Try.ntmps38
  go_wp2
  exact bodyPost_ret (results_none rfl _ _ _) rfl ⟨⟨_, rfl⟩, HR.out⟩

set_option maxRecDepth 100000 in
set_option maxHeartbeats 1000000 in
theorem all_iter (bx b : Nat) (v : Value) (xs : List Int) (w : World) (hbx : w.cell? ⟨bx, 0, none⟩ = some (.pointer (some ⟨b, 0, none⟩))) (hq : BagI w b v xs) (hn : xs.length ≤ 1000) :
    Iter Try.prog 38 #[.pointer (some ⟨bx, 0, none⟩)] encP (places xs) w := by
  intro l W hW R H
  have hc := hW.cell hbx id
  have hB := hq.only hW id (fun _ _ => id)
  obtain ⟨b0, b1⟩ := two_cells hB.head
  obtain ⟨ao, cap, hv⟩ := row_slice hB.row
  subst hv
  have HB := Lib.hid hB
  have HH := Lib.hid H
  clear hbx hW hq H w hB
  show Calls Try.prog 38 #[.func (.yield l) #[] #[], .pointer (some ⟨bx, 0, none⟩)] W _
  go_enter Try.func38, Try.ntmps38
  go_wp2_with (first | (go_at_call 39; refine (clone_at _ xs W HB.out.row hn).mono ?_; rintro e W0 ⟨v0, rfl, hown, o1⟩; obtain ⟨a0, c0, rfl⟩ := row_slice (row_base (Nat.zero_le _) hown); have HOWN := Lib.hid (And.intro hown o1); clear hown o1))
  obtain ⟨J, Jx, hJ0, hJs, hJxs, hY, hJd, hJxd⟩ := HH.out W0 HOWN.out.2
  have HJ0 := Lib.hid hJ0
  have HJs := Lib.hid hJs
  have HJxs := Lib.hid hJxs
  have HY := Lib.hid hY
  have HJd := Lib.hid hJd
  have HJxd := Lib.hid hJxd
  have HRL := Lib.hid (fun k hk => HOWN.out.1.lt k hk)
  clear hJ0 hJs hJxs hY hJd hJxd b0 b1 hc HH
  go_loopw [13] (fun vi wr => ∃ i : Nat, i ≤ xs.length ∧ vi = .int .i64 i ∧ Hid (J i wr) ∧ Hid (wr.ownsRow W.heap.size 3 1 (.slice a0 xs.length c0) xs.length (flatI xs)))
    (fun vi _ => xs.length - (intOf vi).toNat)
  case atStart => exact ⟨0, Nat.zero_le _, rfl, HJ0.out, HOWN.out.1⟩
  case round =>
    clear HJ0
    obtain ⟨i, hi, rfl, HJ, HR⟩ := hrel
    by_cases hlt : i < xs.length
    · obtain ⟨a1, c1, e1, hrd, _⟩ := readsI_row (row_base (Nat.zero_le _) HR.out)
      injection e1 with e1 e2 e3
      subst e1
      subst e3
      clear e2
      obtain ⟨g, rfl, hcell⟩ := hrd (by omega)
      have d0 : wr.cell? ⟨g, i, none⟩ = some (.int .i64 (xs.getD i 0)) := hcell i hlt
      obtain ⟨xi, hxi⟩ : ∃ xi, xi = xs.getD i 0 := ⟨_, rfl⟩
      rw [← hxi] at d0
      have hg := HRL.out g rfl
      have HG := Lib.hid hg
      have HXI := Lib.hid hxi
      clear hrd hcell hxi hg
      obtain ⟨fn, tmps, assign, body, hy, hR⟩ := HY.out i (by rw [places_length]; exact hlt) _ HJ.out
      rw [places_get] at hy
      simp only [encP] at hy
      rw [← HXI.out] at hy
      have HRR := Lib.hid hR
      clear hR
      go_upto_region 4 with fail
      refine (wpIn_wide (n := 0)).1 ?_
      gi_wp2
      refine ⟨rfl, HRR.out.mono ?_⟩
      rintro e W3 (⟨rfl, hk, hj3⟩ | ⟨rfl, hx3⟩)
      · have HJ3 := Lib.hid hj3
        have HR3 := Lib.hid (row_kept HR.out hk (fun k hk2 => HRL.out k hk2))
        clear hk hj3 hy HRR
        gi_wp2
        go_wp2
        go_roundw
        case rel => exact ⟨i + 1, by omega, by go_num, HJ3, HR3⟩
        case measure => simp [intOf]; omega
      · have HX3 := Lib.hid hx3
        clear hx3 hy HRR
        gi_wp2
        go_wp2
        exact bodyPost_ret (results_none rfl _ _ _) rfl ⟨⟨_, rfl⟩, HJxd.out _ HX3.out⟩
    · obtain rfl : i = xs.length := by omega
      go_wp2
      go_end0
      exact ⟨⟨_, rfl⟩, HJd.out _ (by rw [places_length]; exact HJ.out)⟩

end Go.Proofs.Ytofachfbphinaaa
