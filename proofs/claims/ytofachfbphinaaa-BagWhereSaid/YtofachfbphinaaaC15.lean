/- The contracts of Same and Merge. -/
import Derived.Test.YtofachfbphinaaaC13
import Derived.Test.YtofachfbphinaaaC14
namespace Go.Proofs.Ytofachfbphinaaa
open Go.RowKit Go.Gav Go.BigFrame

set_option maxRecDepth 100000 in
theorem sameI (a b : Nat) (va vb : Value) (xs ys : List (Int)) (w : World) (ha : BagI w a va xs) (hb : BagI w b vb ys) (hn : xs.length ≤ 1000) :
    Calls Try.prog 12 #[.pointer (some ⟨a, 0, none⟩), .pointer (some ⟨b, 0, none⟩)] w fun e w' => e = .returned (.bool (decide (keysI xs = keysI ys))) ∧ Only (fun _ => False) w w' := by
  obtain ⟨ao, cap, rfl, hra, _⟩ := ha.reads
  obtain ⟨ap, cbp, rfl, hrb, _⟩ := hb.reads
  have HA := Lib.hid ((Only.refl (fun _ => False) w).alloc (Obj.cells #[.pointer (some ⟨a, 0, none⟩)] 25))
  have p0 := cell_of_one (heap_alloc_new w (Obj.cells #[.pointer (some ⟨a, 0, none⟩)] 25))
  obtain ⟨a0, a1⟩ := two_cells (HA.out.keep ha.head id)
  obtain ⟨b0, b1⟩ := two_cells (HA.out.keep hb.head id)
  have HC := Lib.hid (fun W (hW : Only (fun _ => False) w W) h1 h2 => eqfI xs ys ao ap cap cbp w.heap.size a W (hra.only hW (fun _ _ => id)) (hrb.only hW (fun _ _ => id)) hn h1 h2)
  clear ha hb hra hrb
  go_enter Try.func12, Try.ntmps12
  go_wp2_with (fail)
  go_region_held3 (fun w' => w'.cell? ⟨w.heap.size, 0, none⟩ = some (.pointer (some ⟨a, 0, none⟩)) ∧ w'.cell? ⟨a, 0, none⟩ = some (.func (.func 11) #[] #[]) ∧ w'.cell? ⟨a, 1, none⟩ = some (.slice ao xs.length cap) ∧ w'.cell? ⟨b, 1, none⟩ = some (.slice ap ys.length cbp))
    (first | exact ⟨p0, a0, a1, b1⟩ | exact ⟨o1.cell p0 id, o1.cell a0 id, o1.cell a1 id, o1.cell b1 id⟩) (first | (go_at_call 36; refine (HC.out _ (HA.out.drewN 1) p0 a0).mono ?_; rintro _ w1 ⟨rfl, o1⟩))
  go_wp2
  go_ret
  exact ⟨rfl, (HA.out.drewN 1).trans o1 (fun _ _ h => h)⟩

theorem same_nn (w : World) : Calls Try.prog 12 #[.pointer none, .pointer none] w fun e w' => e = .returned (.bool true) ∧ Only (fun _ => False) w w' := by
  have p0 := cell_of_one (heap_alloc_new w (Obj.cells #[.pointer none] 25))
  go_enter Try.func12, Try.ntmps12
  go_wp2
  go_ret
  exact ⟨rfl, (Only.refl _ _).alloc _⟩

theorem same_nb (p : Addr) (w : World) : Calls Try.prog 12 #[.pointer none, .pointer (some p)] w fun e w' => e = .returned (.bool false) ∧ Only (fun _ => False) w w' := by
  have p0 := cell_of_one (heap_alloc_new w (Obj.cells #[.pointer none] 25))
  go_enter Try.func12, Try.ntmps12
  go_wp2
  go_ret
  exact ⟨rfl, (Only.refl _ _).alloc _⟩

theorem same_bn (p : Addr) (w : World) : Calls Try.prog 12 #[.pointer (some p), .pointer none] w fun e w' => e = .returned (.bool false) ∧ Only (fun _ => False) w w' := by
  have p0 := cell_of_one (heap_alloc_new w (Obj.cells #[.pointer (some p)] 25))
  go_enter Try.func12, Try.ntmps12
  go_wp2
  go_ret
  exact ⟨rfl, (Only.refl _ _).alloc _⟩

theorem merge_nil (p q : Option Addr) (h : p = none ∨ q = none) (w : World) : Calls Try.prog 13 #[.pointer p, .pointer q] w fun e w' => e = .returned (.pointer none) ∧ Only (fun _ => False) w w' := by
  cases p with
  | none =>
    go_enter Try.func13, Try.ntmps13
    go_wp2
    go_ret
    exact ⟨rfl, Only.refl _ _⟩
  | some p =>
    have hq : q = none := by simpa using h
    subst hq
    clear h
    go_enter Try.func13, Try.ntmps13
    go_wp2
    go_ret
    exact ⟨rfl, Only.refl _ _⟩

theorem insBI_end (ys : List (Int)) (x : Int) (h : ∀ y ∈ ys, y ≤ x) : insBI ys x = ys ++ [x] := by
  induction ys with
  | nil => rfl
  | cons y ys ih =>
    simp only [insBI, if_pos (h y (by simp))]
    rw [ih (fun z hz => h z (by simp [hz]))]
    rfl

theorem foldl_insI_up (zs ys : List (Int)) (h : UpI (ys ++ zs)) : zs.foldl insBI ys = ys ++ zs := by
  induction zs generalizing ys with
  | nil => simp
  | cons z zs ih =>
    rw [List.foldl_cons, insBI_end ys z (fun y hy => (List.pairwise_append.1 h).2.2 y hy z (by simp)), ih _ (by simpa using h)]
    simp

set_option maxRecDepth 100000 in
theorem mergeI (a b : Nat) (va vb : Value) (xs ys : List (Int)) (w : World) (ha : BagI w a va xs) (hb : BagI w b vb ys) (hn : xs.length + ys.length ≤ 1000) :
    Calls Try.prog 13 #[.pointer (some ⟨a, 0, none⟩), .pointer (some ⟨b, 0, none⟩)] w fun e w' => ∃ v', e = .returned (.pointer (some ⟨w.heap.size, 0, none⟩)) ∧ BagI w' w.heap.size v' (ys.foldl insBI xs) ∧ Only (fun _ => False) w w' ∧ ∀ k, v'.ownBlock = some k → w.heap.size < k := by
  obtain ⟨ao, cap, rfl, hra⟩ := ha.arg (S := fun _ => False) (fun _ _ h => h)
  obtain ⟨ap, cbp, rfl, hrb⟩ := hb.arg (S := fun _ => False) (fun _ _ h => h)
  obtain ⟨a0, a1⟩ := two_cells ha.head
  obtain ⟨b0, b1⟩ := two_cells hb.head
  have HN := Lib.hid (fun n => newI xs ao cap (w.drewN n) (hra.only ((Only.refl (fun _ => False) w).drewN n) (fun _ _ _ h => h)) (by omega))
  have HX := Lib.hid (show xs.foldl insBI [] = xs from foldl_insI_up xs [] ha.up)
  have HB := Lib.hid hrb
  clear ha hb hra hrb
  go_enter Try.func13, Try.ntmps13
  go_wp2_with (fail)
  go_region_held3 (fun w' => w'.cell? ⟨a, 0, none⟩ = some (.func (.func 11) #[] #[]) ∧ w'.cell? ⟨a, 1, none⟩ = some (.slice ao xs.length cap))
    (first | exact ⟨a0, a1⟩ | exact ⟨o1.cell a0 id, o1.cell a1 id⟩) (first | (go_at_call 10; refine (HN.out 1).mono ?_; rintro _ w1 ⟨v1, rfl, hb1, o1, hv1⟩))
  have o1' : Only (fun _ => False) w w1 := ((Only.refl (fun _ => False) w).drewN 1).trans o1 (fun _ _ h => h)
  have c1 := o1'.cell b1 id
  rw [HX.out] at hb1
  have hP := putI w.heap.size v1 xs ys ap cbp w1 hb1 ((HB.out.apart (fun g hg _ h => h.elim (fun h => by omega) (fun h => by have := hv1 g h; simp at this; omega))).only o1' (fun _ _ _ h => h)) hn
  have HP := Lib.hid hP
  have HO := Lib.hid o1'
  have HV := Lib.hid hv1
  clear hP o1' hv1 o1 a0 a1
  go_wp2_with (first | (go_at_call 35; refine HP.out.mono ?_; rintro _ w2 ⟨v2, rfl, hb2, o2, hv2⟩))
  go_ret
  have hs := HO.out.size
  refine ⟨v2, rfl, hb2, ⟨o2.os.trans HO.out.os, o2.tape.trans HO.out.tape, o2.output.trans HO.out.output, Nat.le_trans hs o2.size, fun k hk _ => ?_⟩, fun k hk => ?_⟩
  · rw [o2.block k (by omega) (fun h => h.elim (fun h => by omega) (fun h => by have := HV.out k h; simp at this; omega))]
    exact HO.out.block k hk id
  · have hs2 : w.heap.size < w1.heap.size := by have := lt_of_block hb1.head; simpa using this
    rcases hv2 with h | h
    · rw [h] at hk; simpa using HV.out k hk
    · have := h k hk
      omega

end Go.Proofs.Ytofachfbphinaaa
