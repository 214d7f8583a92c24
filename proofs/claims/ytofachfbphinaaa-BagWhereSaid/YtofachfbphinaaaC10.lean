/- The contract of Drop. -/
import Derived.Test.YtofachfbphinaaaC7
import Derived.Test.YtofachfbphinaaaC8
import Derived.Test.YtofachfbphinaaaC9
namespace Go.Proofs.Ytofachfbphinaaa
open Go.RowKit Go.Gav Go.BigFrame

/-- Without the first one that is level. -/
def dropBM : List (Int × Int) → Int × Int → List (Int × Int)
  | [], _ => []
  | y :: ys, x => if y.1 = x.1 then ys else y :: dropBM ys x

theorem dropBM_none (xs : List (Int × Int)) (x : Int × Int) (h : cntM xs x = 0) : dropBM xs x = xs := by
  induction xs with
  | nil => rfl
  | cons y ys ih =>
    unfold cntM at h ih
    rw [List.countP_cons] at h
    by_cases he : y.1 = x.1
    · simp [he] at h
    · simp only [dropBM, if_neg he]
      rw [ih (by omega)]

theorem dropBM_at (xs : List (Int × Int)) (x : Int × Int) (lo : Nat) (h : LoP (fun i => (xs.getD i (0, 0)).1) xs.length (x.1) lo) (hup : UpM xs) (hc : cntM xs x ≠ 0) : lo < xs.length ∧ dropBM xs x = xs.take lo ++ xs.drop (lo + 1) := by
  induction xs generalizing lo with
  | nil => exact absurd rfl hc
  | cons y ys ih =>
    obtain ⟨h1, h2, h3⟩ := h
    simp only [List.length_cons] at h1 h3
    unfold cntM at hc ih
    rw [List.countP_cons] at hc
    cases lo with
    | zero =>
      have := h3 0 (by omega) (by omega)
      simp at this
      refine ⟨by simp, ?_⟩
      have he : y.1 = x.1 := by
        rcases Int.lt_or_le (x.1) (y.1) with hlt | hle
        · exfalso
          have h0 : ys.countP (fun y => decide (y.1 = x.1)) = 0 := by
            rw [List.countP_eq_zero]
            intro z hz
            have := (List.pairwise_cons.1 hup).1 z hz
            simp
            omega
          rw [h0, if_neg (by simp; omega)] at hc
          exact hc rfl
        · omega
      simp only [dropBM, if_pos he]
      rfl
    | succ lo =>
      have := h2 0 (by omega)
      simp at this
      have hne : ¬ y.1 = x.1 := by omega
      rw [if_neg (by simpa using hne), Nat.add_zero] at hc
      obtain ⟨a, b⟩ := ih lo ⟨by omega, fun j hj => by simpa using h2 (j + 1) (by omega), fun j h4 h5 => by simpa using h3 (j + 1) (by omega) (by omega)⟩ (List.pairwise_cons.1 hup).2 hc
      refine ⟨by simp; omega, ?_⟩
      simp only [dropBM, if_neg hne]
      rw [b]
      rfl

theorem dropBM_sub (xs : List (Int × Int)) (x : Int × Int) : (dropBM xs x).Sublist xs := by
  induction xs with
  | nil => exact List.Sublist.refl _
  | cons y ys ih =>
    simp only [dropBM]
    split
    · exact List.sublist_cons_self _ _
    · exact ih.cons_cons _

theorem flatM_drop1 (xs : List (Int × Int)) (i : Nat) (h : i < xs.length) : (flatM xs).take (i * 2) ++ (flatM xs).drop ((i + 1) * 2) = flatM (xs.take i ++ xs.drop (i + 1)) := by
  have a := flatM_take xs i (Nat.le_of_lt h)
  have b := flatM_drop xs (i + 1) h
  rw [a, b, flatM_append]

set_option maxRecDepth 100000 in
theorem dropM (b : Nat) (v : Value) (xs : List (Int × Int)) (x : Int × Int) (w : World) (h : BagM w b v xs) (hn : xs.length ≤ 1000) :
    Calls Try.prog 26 #[.pointer (some ⟨b, 0, none⟩), .agg #[.int .i64 x.1, .int .i64 x.2]] w fun e w' => ∃ v', e = .returned (.bool (decide (cntM xs x ≠ 0))) ∧ PutQM w w' b v v' (dropBM xs x) := by
  have HA := Lib.hid ((Only.refl (fun _ => False) w).alloc (Obj.cells #[Value.int .i64 x.1, .int .i64 x.2] 49))
  obtain ⟨y0, y1⟩ := two_cells (heap_alloc_new w (Obj.cells #[Value.int .i64 x.1, .int .i64 x.2] 49))
  by_cases hc : cntM xs x = 0
  · have hd : decide (cntM xs x ≠ 0) = false := by simp [hc]
    rw [hd, dropBM_none _ _ hc]
    have HH := Lib.hid h
    clear h hd
    have hz : ((cntM xs x : Nat) : Int) = 0 := by rw [hc]; rfl
    go_enter Try.func26, Try.ntmps26
    go_wp2_with (fail)
    refine (countM b v xs x _ (HH.out.only HA.out id (fun _ _ => id)) hn).mono ?_
    rintro _ w1 ⟨rfl, o1⟩
    go_wp2
    go_ret
    exact ⟨v, rfl, HH.out.only (HA.out.trans o1 (fun _ _ h => h)) id (fun _ _ => id), (HA.out.trans o1 (fun _ _ h => h)).mono (fun _ h => h.elim), .inl rfl⟩
  · have hd : decide (cntM xs x ≠ 0) = true := by simp [hc]
    rw [hd]
    have hz : ¬ ((cntM xs x : Nat) : Int) = 0 := by omega
    have hpos : 0 < xs.length := by
      cases xs with
      | nil => exact absurd rfl hc
      | cons _ _ => simp
    obtain ⟨m, hm⟩ : ∃ m, xs.length = m + 1 := ⟨xs.length - 1, by omega⟩
    obtain ⟨g, cap, hv⟩ : ∃ g cap, v = .slice (some ⟨g, 0, none⟩) (m + 1) cap := by
      rcases h.row.2 with ⟨_, h0⟩ | ⟨g, cap, _, hv, _⟩
      · omega
      · exact ⟨g, cap, by rw [hv, hm]⟩
    subst hv
    have hrd : ReadsM w (some ⟨g, 0, none⟩) xs.length (fun i => xs.getD i (0, 0)) := by
      obtain ⟨ao, c, e, hr, _⟩ := h.reads
      injection e with e1
      rw [e1]
      exact hr
    have hrow := h.row
    rw [hm] at hrow
    obtain ⟨b0, b1⟩ := two_cells h.head
    have b0 := HA.out.cell b0 id
    have b1 := HA.out.cell b1 id
    have HH := Lib.hid (And.intro h (And.intro hrd hrow))
    have hm1 : m ≤ 999 := by omega
    have HM := Lib.hid hm
    rw [hm] at hrd
    have HF := Lib.hid (fun W (hW : Only (fun _ => False) w W) => findM b (some ⟨g, 0, none⟩) (m + 1) cap (fun i => xs.getD i (0, 0)) x W (hW.keep h.head id) (by omega) (hrd.only hW (fun _ _ => id)) (by have := h.up.get; rw [hm] at this; exact this))
    have HAT := Lib.hid (fun lo hlo => dropBM_at xs x lo hlo h.up hc)
    have HLM := Lib.hid (show ∀ lo, LoP (fun i => (xs.getD i (0, 0)).1) (m + 1) (x.1) lo → lo ≤ m from fun lo hlo => by
      have := (HAT.out lo (by rw [hm]; exact hlo)).1
      omega)
    have HGB := Lib.hid (show ¬ b = g from fun e => h.apart (by rw [e]; rfl))
    clear h hd hc hpos hrow hrd hm
    go_enter Try.func26, Try.ntmps26
    go_wp2_with (first | (go_at_call 27; refine (countM b _ xs x _ (HH.out.1.only HA.out id (fun _ _ => id)) hn).mono ?_; rintro _ w1 ⟨rfl, o1⟩; have z0 := o1.cell y0 id; have z1 := o1.cell y1 id) | (go_at_call 43; refine (HF.out _ (HA.out.trans o1 (fun _ _ h => h))).mono ?_; rintro _ w2 ⟨_, rfl, ⟨lo, hi, rfl, hlo, hhi⟩, o2⟩; have c1 := o2.cell (o1.cell b1 id) id; have hlm := HLM.out lo hlo) | (go_at_call 45; refine (delM g m cap lo (flatM xs) _ (row_only HH.out.2.2 ((HA.out.trans o1 (fun _ _ h => h)).trans o2 (fun _ _ h => h)) (fun _ _ h => h)) (by omega) hlm flatM_one).mono ?_; rintro _ w3 ⟨rfl, hrow, o3⟩; have c3 := o3.cell c1 HGB.out; have f3 := free_of_row (j := 1) (o3.keep (o2.keep (o1.keep (HA.out.keep HH.out.1.head id) id) id) HGB.out)))
    go_ret
    obtain ⟨hlt, hdr⟩ := HAT.out lo (by rw [HM.out]; exact hlo)
    have hfl : (flatM xs).take (lo * 2) ++ (flatM xs).drop ((lo + 1) * 2) = flatM (dropBM xs x) := by rw [hdr]; exact flatM_drop1 xs lo hlt
    have hle : (dropBM xs x).length = m := by
      rw [hdr, List.length_append, List.length_take, List.length_drop, HM.out]
      omega
    rw [hfl, ← hle] at hrow
    have O12 := (HA.out.trans o1 (fun _ _ h => h)).trans o2 (fun _ _ h => h)
    have O3 : Only (fun k => k = b ∨ (Value.slice (some ⟨g, 0, none⟩) (m + 1) cap).ownBlock = some k) w w3 := (O12.mono (fun _ h => h.elim)).trans o3 (fun k _ h => .inr (by rw [h]; rfl))
    refine ⟨.slice (some ⟨g, 0, none⟩) m cap, rfl, ⟨?_, ?_, fun e => HGB.out (by injection e with e; exact e.symm), HH.out.1.up.sublist (dropBM_sub _ _)⟩, O3.setCell (.inl (.inl rfl)) _, .inl rfl⟩
    · rw [hp_same (o3.keep (O12.keep HH.out.1.head id) HGB.out)]
      rfl
    · rw [hle] at hrow ⊢
      exact row_only hrow ((Only.refl (fun k => k = b) _).setCell (.inl rfl) _) (fun k hk e => HGB.out (by rw [← e]; injection hk with hk; exact hk.symm))

end Go.Proofs.Ytofachfbphinaaa
