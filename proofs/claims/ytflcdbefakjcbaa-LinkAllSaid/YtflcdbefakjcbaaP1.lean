/- The contracts of the iterators over one queue: its first item, all items. -/
import Derived.Test.YtflcdbefakjcbaaO7
namespace Go.Proofs.Ytflcdbefakjcbaa
open Go.RowKit Go.Gav Go.BigFrame Go.Shelf
attribute [local go_sem] Oper.semAt_some

/-- What a round is handed: an item. -/
def encV (v : Int) : Array Value := #[.int .i64 v]

theorem heads_fun (q : Nat) (w : World) : Calls Try.prog 42 #[.pointer (some ⟨q, 0, none⟩)] w fun e w' => e = .returned (.func (.func 43) #[] #[.pointer (some ⟨w.heap.size, 0, none⟩)]) ∧ w' = w.alloc (.cells #[.pointer (some ⟨q, 0, none⟩)] 24) := by
  go_enter Try.func42, Try.ntmps42
  go_wp2
  go_ret
  exact ⟨rfl, rfl⟩

theorem items_fun (q : Nat) (w : World) : Calls Try.prog 44 #[.pointer (some ⟨q, 0, none⟩)] w fun e w' => e = .returned (.func (.func 45) #[] #[.pointer (some ⟨w.heap.size, 0, none⟩)]) ∧ w' = w.alloc (.cells #[.pointer (some ⟨q, 0, none⟩)] 24) := by
  go_enter Try.func44, Try.ntmps44
  go_wp2
  go_ret
  exact ⟨rfl, rfl⟩

set_option maxRecDepth 100000 in
theorem heads_iter1 (bq q rb room : Nat) (xs : List Int) (w : World) (hbq : w.cell? ⟨bq, 0, none⟩ = some (.pointer (some ⟨q, 0, none⟩))) (hq : QRep w q rb room xs) :
    Iter Try.prog 43 #[.pointer (some ⟨bq, 0, none⟩)] encV (xs.take 1) w := by
  intro l W hW R H
  have hc := hW.cell hbq id
  have hqW := hq.only hW id id
  have HH := Lib.hid H
  clear hbq hW H hq
  show Calls Try.prog 43 #[.func (.yield l) #[] #[], .pointer (some ⟨bq, 0, none⟩)] W _
  cases xs with
  | nil =>
    have HF : Hid (R W) := by
      obtain ⟨J, Jx, hJ0, _, _, _, hJd, _⟩ := HH.out W (Only.refl _ _)
      exact hJd W hJ0
    have hp := q_peek_none q rb room W hqW
    clear hqW HH
    go_enter Try.func43, Try.ntmps43
    go_wp2_with (first | (go_at_call 19; refine hp.mono ?_; rintro e w1 ⟨rfl, rfl⟩) | fail)
    go_end0
    exact ⟨⟨_, rfl⟩, HF.out⟩
  | cons x xs =>
    have hp := q_peek q rb room x xs W hqW
    clear hqW
    go_enter Try.func43, Try.ntmps43
    go_wp2_with (fail)
    refine hp.mono ?_
    rintro e w1 ⟨rfl, o1⟩
    obtain ⟨J, Jx, hJ0, _, _, hY, hJd, hJxd⟩ := HH.out w1 o1
    obtain ⟨fn, tmps, assign, body, hy, hR⟩ := hY 0 (by simp) w1 hJ0
    have HR := Lib.hid hR
    have HJd := Lib.hid (show ∀ W1, J 1 W1 → R W1 from hJd)
    have HJxd := Lib.hid hJxd
    simp only [encV, List.take_succ_cons, List.take_zero, List.getElem_cons_zero] at hy
    clear hp HH hJ0 hY hJd hJxd hR o1 hc
    go_upto_region 2 with fail
    refine (wpIn_wide (n := 0)).1 ?_
    gi_wp2
    refine ⟨rfl, HR.out.mono ?_⟩
    rintro e W3 (⟨rfl, hk3, hj3⟩ | ⟨rfl, hx3⟩)
    · have HJ3 := Lib.hid (HJd.out _ hj3)
      clear hk3 hj3 hy HR
      gi_wp2
      go_wp2
      go_end0
      exact ⟨⟨_, rfl⟩, HJ3.out⟩
    · have HX3 := Lib.hid (HJxd.out _ hx3)
      clear hx3 hy HR
      gi_wp2
      go_wp2
      go_end0
      exact ⟨⟨_, rfl⟩, HX3.out⟩

end Go.Proofs.Ytflcdbefakjcbaa
