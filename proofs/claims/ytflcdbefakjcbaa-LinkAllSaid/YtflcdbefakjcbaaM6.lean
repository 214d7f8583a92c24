/- Both nets' contracts in one form. -/
import Derived.Test.YtflcdbefakjcbaaM5
namespace Go.Proofs.Ytflcdbefakjcbaa
open Go.RowKit Go.Gav Go.BigFrame

/-- May one not send on this link? -/
def badB (n : Nat) (a b : Int) : Bool := decide (a < 0 ∨ n ≤ a ∨ b < 0 ∨ n ≤ b ∨ a = b)
def sendC (n room : Nat) (f : Cont) (a b : Int) : Int := if badB n a b then 1 else if room ≤ (f (a, b)).length then 14 else 0
def sendF (n room : Nat) (f : Cont) (a b v : Int) : Cont := if badB n a b then f else if room ≤ (f (a, b)).length then f else upd f (a, b) (f (a, b) ++ [v])

variable {S : Nat → Prop} {xb n room mb rg : Nat} {f : Cont} {L : List It}

theorem net_send_any (a b v : Int) (w : World) (h : Net w S xb n room f) :
    Calls Try.prog 27 #[.pointer (some ⟨xb, 0, none⟩), .int .i64 a, .int .i64 b, .int .i64 v] w fun e w' => e = .returned (.int .i64 (sendC n room f a b)) ∧
      (∃ S', Net w' S' xb n room (sendF n room f a b v) ∧ ∀ k, S' k → S k ∨ w.heap.size ≤ k) ∧ Only S w w' := by
  unfold sendC sendF
  by_cases hb : badB n a b = true
  · have hb' := hb
    simp only [badB, decide_eq_true_eq] at hb'
    refine (send_bad a b v w h hb').mono ?_
    rintro e w' ⟨rfl, rfl⟩
    simp only [hb, if_true]
    exact ⟨trivial, ⟨S, h, fun _ h => .inl h⟩, Only.refl _ _⟩
  · have hb' := hb
    simp only [badB, decide_eq_true_eq] at hb'
    refine (send_good a b v w h (by omega) (by omega) (by omega)).mono ?_
    rintro e w' ⟨rfl, h2, h3⟩
    simp only [hb]
    exact ⟨rfl, h2, h3⟩

/-- All items lie on links that there are. -/
def InG (n : Nat) (L : List It) : Prop := ∀ y ∈ L, (0 ≤ y.1.1 ∧ y.1.1 < n) ∧ (0 ≤ y.1.2 ∧ y.1.2 < n)

theorem doc_send_any (a b v : Int) (w : World) (h : MN w mb rg n room L) (hg : InG n L) (hlen : L.length ≤ 300) :
    Calls Try.prog 33 #[.pointer (some ⟨mb, 0, none⟩), .int .i64 a, .int .i64 b, .int .i64 v] w fun e w' => e = .returned (.int .i64 (sendC n room (onL L) a b)) ∧
      (∃ rg' L', MN w' mb rg' n room L' ∧ onL L' = sendF n room (onL L) a b v ∧ InG n L' ∧ L'.length ≤ L.length + 1 ∧ (rg' = rg ∨ w.heap.size ≤ rg')) ∧ Only (fun k => k = mb) w w' := by
  unfold sendC sendF
  by_cases hb : badB n a b = true
  · have hb' := hb
    simp only [badB, decide_eq_true_eq] at hb'
    refine (dsend_bad a b v mb rg n room L w h hb').mono ?_
    rintro e w' ⟨rfl, rfl⟩
    simp only [hb, if_true]
    exact ⟨trivial, ⟨rg, L, h, rfl, hg, by omega, .inl rfl⟩, Only.refl _ _⟩
  · have hb' := hb
    simp only [badB, decide_eq_true_eq] at hb'
    refine (dsend_good a b v mb rg n room L w h (by omega) (by omega) (by omega) hlen).mono ?_
    rintro e w' ⟨rfl, ⟨rg', h2, h2'⟩, h3⟩
    simp only [hb]
    by_cases hf : room ≤ (onL L (a, b)).length
    · simp only [hf, if_true] at h2 ⊢
      exact ⟨rfl, ⟨rg', L, h2, rfl, hg, by omega, h2'⟩, h3⟩
    · simp only [hf, if_false] at h2 ⊢
      refine ⟨rfl, ⟨rg', _, h2, ?_, ?_, by simp, h2'⟩, h3⟩
      · funext x
        show onL _ x = if x = (a, b) then _ else _
        by_cases e : x = (a, b)
        · subst e; simp [onL_snoc_eq]
        · simp only [e, if_false]
          exact onL_snoc_ne L x (a, b) v (fun e2 => e e2.symm)
      · intro y hy
        rcases List.mem_append.1 hy with hy | hy
        · exact hg y hy
        · simp at hy; subst hy; exact ⟨by simp; omega, by simp; omega⟩

theorem doc_take_any (a b : Int) (w : World) (h : MN w mb rg n room L) (hg : InG n L) (hlen : L.length ≤ 300) :
    Calls Try.prog 34 #[.pointer (some ⟨mb, 0, none⟩), .int .i64 a, .int .i64 b] w fun e w' => e = .returned (headV (onL L (a, b))) ∧
      (∃ rg' L', MN w' mb rg' n room L' ∧ onL L' = upd (onL L) (a, b) (onL L (a, b)).tail ∧ InG n L' ∧ L'.length ≤ L.length ∧ (rg' = rg ∨ w.heap.size ≤ rg')) ∧ Only (fun k => k = mb) w w' := by
  refine (dtake a b mb rg n room L w h hlen).mono ?_
  rintro e w' ⟨he, ⟨rg', L', h1, h2, h3, h4, h5⟩, h6⟩
  exact ⟨he, ⟨rg', L', h1, funext h3, fun y hy => hg y (h4 y hy), h5, h2⟩, h6⟩

theorem tot_upd : ∀ (l : List En) (f : Cont) (x : En) (v : Int), l.Nodup → x ∈ l → tot (fun y => (if x = y then [v] else []) ++ f y) l = tot f l + 1
  | [], _, _, _, _, h => by cases h
  | y :: l, f, x, v, hn, h => by
    obtain ⟨h1, h2⟩ := List.nodup_cons.1 hn
    rw [tot_cons, tot_cons]
    by_cases e : x = y
    · subst e
      have : ∀ m : List En, x ∉ m → tot (fun y => (if x = y then [v] else []) ++ f y) m = tot f m := by
        intro m
        induction m with
        | nil => intro _; rfl
        | cons z m ih =>
          intro hm
          have hz : ¬ x = z := fun e => hm (by simp [e])
          rw [tot_cons, tot_cons, ih (fun h => hm (by simp [h]))]
          simp [hz]
      rw [this l h1]
      simp; omega
    · have hx : x ∈ l := by
        rcases List.mem_cons.1 h with h | h
        · exact absurd h e
        · exact h
      rw [tot_upd l f x v h2 hx]
      simp [e]; omega

theorem tot_onL : ∀ (L : List It), InG n L → tot (onL L) (gridE n) = L.length
  | [], _ => by
    have : ∀ l : List En, tot (onL []) l = 0 := by
      intro l
      induction l with
      | nil => rfl
      | cons x l ih => rw [tot_cons, ih]; rfl
    simp [this]
  | y :: L, hg => by
    have ih := tot_onL L (fun z hz => hg z (by simp [hz]))
    have e : onL (y :: L) = fun x => (if y.1 = x then [y.2] else []) ++ onL L x := funext (fun x => onL_cons y L x)
    rw [e, tot_upd (gridE n) (onL L) y.1 y.2 (nodup_sorted (sorted_grid n)) (mem_grid.2 (hg y (by simp))), ih]
    rfl

end Go.Proofs.Ytflcdbefakjcbaa
