/- The contract of Drop. -/
import Derived.Test.YtofachfbphinaaaC7
import Derived.Test.YtofachfbphinaaaC8
namespace Go.Proofs.Ytofachfbphinaaa
open Go.RowKit Go.Gav Go.BigFrame

/-- Without the first one that is level. -/
def dropBI : List (Int) → Int → List (Int)
  | [], _ => []
  | y :: ys, x => if y = x then ys else y :: dropBI ys x

theorem dropBI_none (xs : List (Int)) (x : Int) (h : cntI xs x = 0) : dropBI xs x = xs := by
  induction xs with
  | nil => rfl
  | cons y ys ih =>
    unfold cntI at h ih
    rw [List.countP_cons] at h
    by_cases he : y = x
    · simp [he] at h
    · simp only [dropBI, if_neg he]
      rw [ih (by omega)]

theorem dropBI_at (xs : List (Int)) (x : Int) (lo : Nat) (h : LoP (fun i => (xs.getD i 0)) xs.length (x) lo) (hup : UpI xs) (hc : cntI xs x ≠ 0) : lo < xs.length ∧ dropBI xs x = xs.take lo ++ xs.drop (lo + 1) := by
  induction xs generalizing lo with
  | nil => exact absurd rfl hc
  | cons y ys ih =>
    obtain ⟨h1, h2, h3⟩ := h
    simp only [List.length_cons] at h1 h3
    unfold cntI at hc ih
    rw [List.countP_cons] at hc
    cases lo with
    | zero =>
      have := h3 0 (by omega) (by omega)
      simp at this
      refine ⟨by simp, ?_⟩
      have he : y = x := by
        rcases Int.lt_or_le (x) (y) with hlt | hle
        · exfalso
          have h0 : ys.countP (fun y => decide (y = x)) = 0 := by
            rw [List.countP_eq_zero]
            intro z hz
            have := (List.pairwise_cons.1 hup).1 z hz
            simp
            omega
          rw [h0, if_neg (by simp; omega)] at hc
          exact hc rfl
        · omega
      simp only [dropBI, if_pos he]
      rfl
    | succ lo =>
      have := h2 0 (by omega)
      simp at this
      have hne : ¬ y = x := by omega
      rw [if_neg (by simpa using hne), Nat.add_zero] at hc
      obtain ⟨a, b⟩ := ih lo ⟨by omega, fun j hj => by simpa using h2 (j + 1) (by omega), fun j h4 h5 => by simpa using h3 (j + 1) (by omega) (by omega)⟩ (List.pairwise_cons.1 hup).2 hc
      refine ⟨by simp; omega, ?_⟩
      simp only [dropBI, if_neg hne]
      rw [b]
      rfl

theorem dropBI_sub (xs : List (Int)) (x : Int) : (dropBI xs x).Sublist xs := by
  induction xs with
  | nil => exact List.Sublist.refl _
  | cons y ys ih =>
    simp only [dropBI]
    split
    · exact List.sublist_cons_self _ _
    · exact ih.cons_cons _

theorem flatI_drop1 (xs : List (Int)) (i : Nat) (h : i < xs.length) : (flatI xs).take (i) ++ (flatI xs).drop (i + 1) = flatI (xs.take i ++ xs.drop (i + 1)) := by
  have a := flatI_take xs i (Nat.le_of_lt h)
  have b := flatI_drop xs (i + 1) h
  rw [Nat.mul_one] at a b
  rw [a, b, flatI_append]

set_option maxRecDepth 100000 in
theorem dropI (b : Nat) (v : Value) (xs : List (Int)) (x : Int) (w : World) (h : BagI w b v xs) (hn : xs.length ≤ 1000) :
    Calls Try.prog 19 #[.pointer (some ⟨b, 0, none⟩), .int .i64 x] w fun e w' => ∃ v', e = .returned (.bool (decide (cntI xs x ≠ 0))) ∧ PutQI w w' b v v' (dropBI xs x) := by
  by_cases hc : cntI xs x = 0
  · have hd : decide (cntI xs x ≠ 0) = false := by simp [hc]
    rw [hd, dropBI_none _ _ hc]
    have HH := Lib.hid h
    clear h hd
    have hz : ((cntI xs x : Nat) : Int) = 0 := by rw [hc]; rfl
    go_enter Try.func19, Try.ntmps19
    go_wp2_with (fail)
    refine (countI b v xs x _ HH.out hn).mono ?_
    rintro _ w1 ⟨rfl, o1⟩
    go_wp2
    go_ret
    exact ⟨v, rfl, HH.out.only o1 id (fun _ _ => id), o1.mono (fun _ h => h.elim), .inl rfl⟩
  · have hd : decide (cntI xs x ≠ 0) = true := by simp [hc]
    rw [hd]
    have hz : ¬ ((cntI xs x : Nat) : Int) = 0 := by omega
    have hpos : 0 < xs.length := by
      cases xs with
      | nil => exact absurd rfl hc
      | cons _ _ => simp
    obtain ⟨m, hm⟩ : ∃ m, xs.length = m + 1 := ⟨xs.length - 1, by omega⟩
    obtain ⟨g, cap, hv⟩ : ∃ g cap, v = .slice (some ⟨g, 0, none⟩) (m + 1) cap := by
      rcases h.row.2 with ⟨_, h0⟩ | ⟨g, cap, _, hv, _⟩
      · omega
      · exact ⟨g, cap, by rw [hv, hm]⟩
    subst hv
    have hrd : ReadsI w (some ⟨g, 0, none⟩) xs.length (fun i => xs.getD i 0) := by
      obtain ⟨ao, c, e, hr, _⟩ := h.reads
      injection e with e1
      rw [e1]
      exact hr
    have hrow := h.row
    rw [hm] at hrow
    obtain ⟨b0, b1⟩ := two_cells h.head
    have HH := Lib.hid (And.intro h (And.intro hrd hrow))
    have hm1 : m ≤ 999 := by omega
    have HM := Lib.hid hm
    rw [hm] at hrd
    have HF := Lib.hid (fun W (hW : Only (fun _ => False) w W) => findI b (some ⟨g, 0, none⟩) (m + 1) cap (fun i => xs.getD i 0) x W (hW.keep h.head id) (by omega) (hrd.only hW (fun _ _ => id)) (by have := h.up.get; rw [hm] at this; exact this))
    have HAT := Lib.hid (fun lo hlo => dropBI_at xs x lo hlo h.up hc)
    have HLM := Lib.hid (show ∀ lo, LoP (fun i => (xs.getD i 0)) (m + 1) (x) lo → lo ≤ m from fun lo hlo => by
      have := (HAT.out lo (by rw [hm]; exact hlo)).1
      omega)
    have HGB := Lib.hid (show ¬ b = g from fun e => h.apart (by rw [e]; rfl))
    clear h hd hc hpos hrow hrd hm
    go_enter Try.func19, Try.ntmps19
    go_wp2_with (first | (go_at_call 16; refine (countI b _ xs x _ HH.out.1 hn).mono ?_; rintro _ w1 ⟨rfl, o1⟩) | (go_at_call 40; refine (HF.out _ o1).mono ?_; rintro _ w2 ⟨_, rfl, ⟨lo, hi, rfl, hlo, hhi⟩, o2⟩; have c1 := o2.cell (o1.cell b1 id) id; have hlm := HLM.out lo hlo) | (go_at_call 42; refine (delI g m cap lo (flatI xs) _ (row_only HH.out.2.2 (o1.trans o2 (fun _ _ h => h)) (fun _ _ h => h)) (by omega) hlm flatI_one).mono ?_; rintro _ w3 ⟨rfl, hrow, o3⟩; have c3 := o3.cell c1 HGB.out; have f3 := free_of_row (j := 1) (o3.keep (o2.keep (o1.keep HH.out.1.head id) id) HGB.out)))
    go_ret
    obtain ⟨hlt, hdr⟩ := HAT.out lo (by rw [HM.out]; exact hlo)
    have hfl : (flatI xs).take (lo) ++ (flatI xs).drop (lo + 1) = flatI (dropBI xs x) := by rw [hdr]; exact flatI_drop1 xs lo hlt
    have hle : (dropBI xs x).length = m := by
      rw [hdr, List.length_append, List.length_take, List.length_drop, HM.out]
      omega
    rw [hfl, ← hle] at hrow
    have O12 := o1.trans o2 (fun _ _ h => h)
    have O3 : Only (fun k => k = b ∨ (Value.slice (some ⟨g, 0, none⟩) (m + 1) cap).ownBlock = some k) w w3 := (O12.mono (fun _ h => h.elim)).trans o3 (fun k _ h => .inr (by rw [h]; rfl))
    refine ⟨.slice (some ⟨g, 0, none⟩) m cap, rfl, ⟨?_, ?_, fun e => HGB.out (by injection e with e; exact e.symm), HH.out.1.up.sublist (dropBI_sub _ _)⟩, O3.setCell (.inl (.inl rfl)) _, .inl rfl⟩
    · rw [hp_same (o3.keep (O12.keep HH.out.1.head id) HGB.out)]
      rfl
    · rw [hle] at hrow ⊢
      exact row_only hrow ((Only.refl (fun k => k = b) _).setCell (.inl rfl) _) (fun k hk e => HGB.out (by rw [← e]; injection hk with hk; exact hk.symm))

end Go.Proofs.Ytofachfbphinaaa
