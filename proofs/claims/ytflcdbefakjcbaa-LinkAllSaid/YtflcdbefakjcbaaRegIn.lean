/- The law on drawn regions of the text before this one, where a round of a range over a function may be called. No statement is proved here. -/
import Derived.Test.YtflcdbefakjcbaaReg
import Derived.OrdersIn
import Derived.TacticsIn
namespace Go.Gav
open Go

section
variable {P : Program} {ops : Array Oper} {md : Region.Mode} {C : World → Prop}

theorem wpIn_of_quiet {o : Oper} {a : Act} {K : Act → Prop} {K' : Act → World → Prop} {Q' : Exit → Act → World → Prop} {w : World} (hw : C w) (h : ∀ a w', C w' → K a → K' a w') (hh : o.quiet P a C K) :
    o.wpIn Fence.wide 0 P a w K' Q' := by
  obtain ⟨v, h1, h2⟩ := hh
  have h3 := h1 w hw
  unfold Oper.quietAt at h3
  refine ⟨fun _ _ => trivial, ?_⟩
  show Oper.uponIn Fence.wide 0 P o a K' Q' ((execOp a.eval o).run P w)
  generalize (execOp a.eval o).run P w = r at *
  cases r with
  | ok n w' =>
    cases n <;> simp only [Oper.quietUpon] at h3 <;> simp only [Oper.uponIn]
    case value u =>
      obtain ⟨e1, e2⟩ := h3
      rw [e1, e2]
      exact h _ _ hw h2
    case skip =>
      obtain ⟨e1, e2⟩ := h3
      rw [e1, ← e2]
      exact h _ _ hw h2
    case enter f args =>
      obtain ⟨e1, hc⟩ := h3
      rw [e1]
      refine ⟨fun hd => by simp [Fence.wide] at hd, callsIn_wide.2 (hc.mono fun e w'' ⟨he, hw''⟩ => ?_)⟩
      subst he
      exact h _ _ hw'' h2
  | halt x w' => simp only [Oper.quietUpon] at h3

theorem wpOpIn_of_qOp {i : Nat} {a : Act} {K : Act → Prop} {K' : Act → World → Prop} {Q' : Exit → Act → World → Prop} {w : World} (hC : C w) (h : ∀ a w', C w' → K a → K' a w') (hh : qOp P ops C i K a) :
    wpOpIn Fence.wide 0 P ops Q' i K' a w := by
  unfold qOp at hh
  unfold wpOpIn
  split
  · rename_i ho; simp only [ho] at hh; exact h _ _ hC hh
  · rename_i o ho
    simp only [ho] at hh
    split
    · rename_i hw; simp only [hw, if_true] at hh; exact wpIn_of_quiet hC h hh
    · rename_i hw; simp only [hw] at hh; exact ⟨fun _ _ => trivial, h _ _ hC hh⟩

theorem wpAnyIn_of_headQ {g : Nat} {L : Array Bool → Act → Prop} {Q' : Exit → Act → World → Prop} (hL : ∀ listed a w, C w → L listed a → wpAnyIn Fence.wide 0 P md ops Q' g listed a w) :
    ∀ (f : Nat) (listed : Array Bool) (a : Act) (w : World), C w → wpAnyLQ P md ops C L f listed a → wpAnyIn Fence.wide 0 P md ops Q' (f + g) listed a w
  | 0, listed, a, w, hw, h => by rw [Nat.zero_add]; exact hL _ _ _ hw h
  | f + 1, listed, a, w, hw, h => by
    rw [show f + 1 + g = (f + g) + 1 by omega]
    exact ⟨fun h0 => absurd h0 h.1, fun i hi => wpOpIn_of_qOp hw (fun a' w' hw' h' => wpAnyIn_of_headQ hL f _ a' w' hw' h') (h.2 i hi)⟩

theorem wpAnyIn_of_seqI {Q' : Exit → Act → World → Prop} : ∀ (T : List Nat) (listed : Array Bool) (a : Act) (w : World),
    seqI md ops T listed = true → wpListIn Fence.wide 0 P ops Q' (pick ops T) a w → wpAnyIn Fence.wide 0 P md ops Q' T.length listed a w
  | [], _, _, _, hB, h => ⟨by simpa [seqI] using hB, h⟩
  | k :: t, listed, a, w, hB, h => by
    simp only [seqI, Bool.and_eq_true, decide_eq_true_eq] at hB
    refine ⟨fun h1 => (by rw [hB.1] at h1; cases h1), fun i hi => ?_⟩
    obtain ⟨_, o, ho, _⟩ := mem_ready.1 hi
    rw [hB.1] at hi
    have hik : i = k := by simpa using hi
    subst hik
    rw [pick_cons ho] at h
    have hw : wpOpIn Fence.wide 0 P ops Q' i (wpListIn Fence.wide 0 P ops Q' (pick ops t)) a w := by unfold wpOpIn; simp only [ho]; exact h
    exact wpOpIn_mono (fun a' w' h' => wpAnyIn_of_seqI t _ a' w' hB.2 h') hw

theorem yieldsF_of_move {o : Oper} {x : Operand} (h : moveOf o = some x) (a : Act) : YieldsFenced P ops o (a.eval x) a := by
  refine ⟨yields_of_move h a, fun w => ?_⟩
  unfold moveOf at h
  unfold Oper.about
  split at h
  · rename_i hop; rw [hop]
  · rename_i hop; rw [hop]
  · cases h

theorem wpAnyIn_of_pre {Q : Exit → Act → World → Prop} (hs : Region.noSelect ops = true) (hQ : ∀ c (a : Act) w t, Q (.panic c) { a with tmps := t } w → Q (.panic c) a w) {fuel : Nat} {w : World} :
    ∀ (pre : List Nat) (listed : Array Bool) (a : Act), preB md ops pre listed = true → wpAnyIn Fence.wide 0 P md ops Q fuel (listAll pre listed) (movesOf ops pre a) w → wpAnyIn Fence.wide 0 P md ops Q (pre.length + fuel) listed a w
  | [], listed, a, _, h => by rw [List.length_nil, Nat.zero_add]; exact h
  | i :: is, listed, a, hB, h => by
    simp only [preB, Bool.and_eq_true] at hB
    obtain ⟨⟨⟨hm, hr⟩, hf⟩, hB'⟩ := hB
    cases ho : ops[i]? with
    | none => simp [ho] at hm
    | some o =>
      simp only [ho] at hm
      obtain ⟨x, hx⟩ := Option.isSome_iff_exists.1 hm
      have h' : wpAnyIn Fence.wide 0 P md ops Q fuel (listAll is (listed.setIfInBounds i true)) (movesOf ops is (a.put o.dst (a.eval x))) w := by
        have := h
        simp only [movesOf, ho, hx, listAll] at this
        exact this
      rw [show (i :: is).length + fuel = (is.length + fuel) + 1 by simp; omega]
      exact wpAnyIn_take rfl ho hs hf hr (fun c a w h => hQ c a w _ (by rw [put_tmps] at h; exact h)) (yieldsF_of_move hx a) (wpAnyIn_of_pre hs hQ is _ _ hB' h')

/-- The operations 'pre' copy slots; those of H only read; those of t0 :: T follow, in that order (a call of yield may be among them). -/
theorem wpIn_region_mixed {id : Nat} {Q : Exit → Act → World → Prop} {a : Act} {w : World} {l : List Oper} (pre H : List Nat) (t0 : Nat) (T : List Nat) (hm : P.follows .mixedOrders = true) (hB : mixedB l.toArray pre H t0 T = true)
    (hQ : ∀ c (a : Act) w t, Q (.panic c) { a with tmps := t } w → Q (.panic c) a w)
    (h : wpQuiet P l.toArray (fun w' => ∃ k, w' = w.drewN k) (fun a' => ∀ w', (∃ k, w' = w.drewN k) → wpListIn Fence.wide 0 P l.toArray Q (pick l.toArray (t0 :: T)) a' w') (pick l.toArray H) (movesOf l.toArray pre a)) :
    (Code.region id l.toArray true).wpIn Fence.wide 0 P Q a w := by
  simp only [mixedB, Bool.and_eq_true, List.all_eq_true, decide_eq_true_eq, beq_iff_eq] at hB
  obtain ⟨⟨⟨hsel, hpre⟩, ⟨⟨⟨⟨⟨hinv, hsz⟩, hsink⟩, hchain⟩, hdis⟩, hlex⟩⟩, hlen⟩ := hB
  have H1 := wpAnyLQ_lexI (md := .any) (C := fun w' => ∃ k, w' = w.drewN k) hsel hsz hsink hchain (fun j hj hT => by
    have := hdis j hj
    have h2 : List.contains (t0 :: T) j = true := by simpa using hT
    rw [h2] at this; cases this) H _ (movesOf l.toArray pre a) (fun _ h => h) (inv_of_B hinv) hlex h
  have hL : ∀ (listed : Array Bool) (a' : Act) (w' : World), (∃ k, w' = w.drewN k) → (seqI .any l.toArray (t0 :: T) listed = true ∧ ∀ w', (∃ k, w' = w.drewN k) → wpListIn Fence.wide 0 P l.toArray Q (pick l.toArray (t0 :: T)) a' w') →
      wpAnyIn Fence.wide 0 P .any l.toArray Q (t0 :: T).length listed a' w' := fun listed a' w' hw' hL => wpAnyIn_of_seqI (t0 :: T) listed a' w' hL.1 (hL.2 w' hw')
  have R : wpAnyIn Fence.wide 0 P .any l.toArray Q (pre.length + (H.length + (t0 :: T).length)) (Array.replicate l.toArray.size false) a { w with drawn := w.drawn + 1 } :=
    wpAnyIn_of_pre hsel hQ pre _ _ hpre (wpAnyIn_of_headQ (C := fun w' => ∃ k, w' = w.drewN k) hL H.length _ _ _ ⟨1, rfl⟩ H1)
  rw [← hlen] at R
  exact wpIn_region_any hm R

end
end Go.Gav
