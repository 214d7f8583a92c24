/- Plain facts on first items; a law on loops whose measure is a witness. No statement is proved here. -/
import Derived.Test.YtflcdbefakjcbaaP4
namespace Go.Gav
open Go Go.RowKit

theorem exists_least {p : Nat → Prop} (h : ∃ n, p n) : ∃ m, p m ∧ ∀ k, p k → m ≤ k := by
  obtain ⟨n, hn⟩ := h
  induction n using Nat.strongRecOn with
  | _ n ih =>
    by_cases hk : ∃ k, k < n ∧ p k
    · obtain ⟨k, hlt, hpk⟩ := hk
      exact ih k hlt hpk
    · exact ⟨n, hn, fun k hpk => Nat.le_of_not_lt (fun hlt => hk ⟨k, hlt, hpk⟩)⟩

theorem least_choice {α : Type} (p : α → Nat → Prop) : ∃ μ : α → Nat, ∀ a, (∃ n, p a n) → p a (μ a) ∧ ∀ k, p a k → μ a ≤ k := by
  classical
  refine ⟨fun a => if h : ∃ m, p a m ∧ ∀ k, p a k → m ≤ k then h.choose else 0, fun a ha => ?_⟩
  have h2 := exists_least ha
  simp only [dif_pos h2]
  exact h2.choose_spec

section
variable {P : Program}
/-- A loop whose rounds may hold loops over functions; the measure is told by the relation. -/
theorem wp_loop_marksM {c : Code} {Q : Exit → Act → World → Prop} {a : Act} {w : World} (slots : List Nat) (rel : Nat → List Nat → (Nat → Value) → World → Prop) (m0 : Nat) (Ds0 : List Nat) (hd : a.defers = marks Ds0)
    (h0 : rel m0 Ds0 (fun k => a.tmps.getD k undef) w) (hput : putS (fun k => a.tmps.getD k undef) slots a.tmps = a.tmps)
    (round : ∀ m Ds us w, rel m Ds us w → c.wp P (Exit.then (fun a' w' => ∃ m' Ds' t, a' = ⟨t, marks Ds'⟩ ∧ putS (fun k => t.getD k undef) slots a.tmps = t ∧ rel m' Ds' (fun k => t.getD k undef) w' ∧ m' < m) Q) ⟨putS us slots a.tmps, marks Ds⟩ w) :
    (Code.loop c).wp P Q a w := by
  obtain ⟨μ, hμ⟩ := least_choice (fun (q : Act × World) m => ∃ Ds us, q.1 = ⟨putS us slots a.tmps, marks Ds⟩ ∧ rel m Ds us q.2)
  refine wp_loop (fun a' w' => ∃ m Ds us, a' = ⟨putS us slots a.tmps, marks Ds⟩ ∧ rel m Ds us w') (fun a' w' => μ (a', w')) ⟨m0, Ds0, _, by rw [hput, ← hd], h0⟩ ?_
  rintro a1 w1 hI
  obtain ⟨⟨Ds, us, hq, hr⟩, hmin⟩ := hμ (a1, w1) hI
  simp only at hq
  subst hq
  refine wp_mono (round _ Ds us w1 hr) ?_
  intro e a2 w2 he
  cases e with
  | normal =>
    obtain ⟨m', Ds', t, rfl, ht, hr', hlt⟩ := he
    have hI' : ∃ m Ds us, (⟨t, marks Ds'⟩ : Act) = ⟨putS us slots a.tmps, marks Ds⟩ ∧ rel m Ds us w2 := ⟨m', Ds', _, by rw [ht], hr'⟩
    exact ⟨hI', Nat.lt_of_le_of_lt ((hμ (⟨t, marks Ds'⟩, w2) hI').2 m' ⟨Ds', _, by rw [ht], hr'⟩) hlt⟩
  | exit id => exact he
  | goto l => exact he
  | ret => exact he
  | panic ch => exact he
  | outgrown => exact he
end
end Go.Gav
namespace Go.Proofs.Ytflcdbefakjcbaa
open Go.RowKit Go.Gav Go.BigFrame

/-- The links that something stands on. -/
def fullL (f : Cont) (l : List En) : List En := l.filter fun p => !(f p).isEmpty
theorem handH_eq (f : Cont) : ∀ l : List En, handL selH f l = (fullL f l).map fun p => (p, (f p).headD 0)
  | [] => rfl
  | x :: l => by
    have ih := handH_eq f l
    have e : handL selH f (x :: l) = (selH (f x)).map (fun v => (x, v)) ++ handL selH f l := by simp [handL]
    rw [e, ih]
    unfold fullL selH
    cases hx : f x with
    | nil => simp [hx]
    | cons v r => simp [hx]
/-- The first items of these links are gone. -/
def cutF (f : Cont) (l : List En) : Cont := fun x => if x ∈ l then (f x).tail else f x
theorem cutF_nil (f : Cont) : cutF f [] = f := by funext x; simp [cutF]
theorem cutF_snoc (f : Cont) (l : List En) (p : En) (h : p ∉ l) : upd (cutF f l) p (cutF f l p).tail = cutF f (l ++ [p]) := by
  funext x
  unfold upd
  by_cases e : x = p
  · subst e; simp [cutF, h]
  · simp [cutF, e]
theorem cutF_off (f : Cont) (l : List En) (p : En) (h : p ∉ l) : cutF f l p = f p := by simp [cutF, h]
theorem tot_congr {f g : Cont} : ∀ l : List En, (∀ x ∈ l, f x = g x) → tot f l = tot g l
  | [], _ => rfl
  | x :: l, h => by rw [tot_cons, tot_cons, h x (by simp), tot_congr l (fun y hy => h y (by simp [hy]))]
theorem tot_tail (f : Cont) : ∀ l : List En, tot (fun x => (f x).tail) l + (fullL f l).length = tot f l
  | [] => rfl
  | x :: l => by
    have ih := tot_tail f l
    rw [tot_cons, tot_cons]
    cases hx : f x with
    | nil =>
      have e : fullL f (x :: l) = fullL f l := by simp [fullL, hx]
      rw [e]; simp; omega
    | cons v r =>
      have e : fullL f (x :: l) = x :: fullL f l := by simp [fullL, hx]
      rw [e]; simp; omega
theorem tot_cut (f : Cont) (l : List En) : tot (cutF f (fullL f l)) l + (fullL f l).length = tot f l := by
  rw [← tot_tail f l]
  congr 1
  refine tot_congr l (fun x hx => ?_)
  unfold cutF
  split
  · rfl
  · rename_i h
    have : f x = [] := by
      cases e : f x with
      | nil => rfl
      | cons v r => exact absurd (by unfold fullL; simp [hx, e]) h
    rw [this]; rfl
theorem fullL_pos (f : Cont) (l : List En) (h : 0 < tot f l) : 0 < (fullL f l).length := by
  rcases Nat.eq_zero_or_pos (fullL f l).length with h0 | h0
  · have h1 : fullL f l = [] := List.eq_nil_of_length_eq_zero h0
    have h2 : tot f l = 0 := by
      have : ∀ m : List En, fullL f m = [] → tot f m = 0 := by
        intro m
        induction m with
        | nil => intro _; rfl
        | cons x m ih =>
          intro hm
          cases hx : f x with
          | nil => rw [tot_cons, hx]; simp [fullL, hx] at hm; simpa using ih (by simpa [fullL] using hm)
          | cons v r => simp [fullL, hx] at hm
      exact this l h1
    omega
  · exact h0
theorem fullL_head {f : Cont} {l : List En} {p : En} (h : p ∈ fullL f l) : headV (f p) = .tuple #[.int .i64 ((f p).headD 0), .bool true] := by
  unfold fullL at h
  have h2 := (List.mem_filter.1 h).2
  unfold headV
  rw [h2]
theorem fullL_nodup {f : Cont} {l : List En} (h : l.Nodup) : (fullL f l).Nodup := h.filter _

theorem grid_le (n : Nat) (hn : n ≤ 8) : (gridE n).length ≤ 64 := by
  have hs : ∀ l : List Nat, (l.map fun _ => n).sum = l.length * n := by
    intro l
    induction l with
    | nil => simp
    | cons a l ih => simp [Nat.add_mul, ih, Nat.add_comm]
  have h2 : (gridE n).length = n * n := by simp [gridE, List.length_flatMap, hs]
  have h3 : n * n ≤ 8 * 8 := Nat.mul_le_mul hn hn
  omega
theorem Net.tot_le {w : World} {S : Nat → Prop} {xb n room : Nat} {f : Cont} (h : Net w S xb n room f) : tot f (gridE n) ≤ 64 * room := by
  obtain ⟨mb, ps, rb, own, hh⟩ := h
  have h1 := Ytflcdbefakjcbaa.tot_le f room (gridE n) (fun x _ => hh.fit x)
  have h2 := Nat.mul_le_mul_right room (grid_le n hh.hn.2)
  omega

end Go.Proofs.Ytflcdbefakjcbaa
