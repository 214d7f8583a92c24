/- The law on drawn regions in the body of a range over a function: operations that only read, in whatever order, then a chain in a fixed order. No statement is proved here. -/
import Derived.Test.YtflcdbefakjcbaaRegIn
import Derived.OrdersIn
import Derived.TacticsIn
import Derived.RangeFuncCalls
namespace Go.Gav
open Go

section
variable {P : Program} {ops : Array Oper} {md : Region.Mode} {C : World → Prop} {r : Nat}

theorem wpIn_of_quiet_round {o : Oper} {a : Act} {K : Act → Prop} {K' : Act → World → Prop} {Q' : Exit → Act → World → Prop} {w : World} (hw : C w) (h : ∀ a w', C w' → K a → K' a w') (hh : o.quiet P a C K) :
    o.wpIn (Fence.wide.inRound r) 0 P a w K' Q' := by
  obtain ⟨v, h1, h2⟩ := hh
  have h3 := h1 w hw
  unfold Oper.quietAt at h3
  refine ⟨fun _ _ => trivial, ?_⟩
  by_cases hd : ∃ c, o.op = .defer c
  · obtain ⟨c, hd⟩ := hd
    exfalso
    revert h3
    simp only [execOp, hd]
    simp only [Sem.run_bind, Sem.run_pure]
    cases (resolve a.eval c o.type).run P w <;> simp [Result.andThen, Oper.quietUpon]
  rw [show (Fence.wide.inRound r).round = some r from rfl, Oper.semAt_some r _ _ (fun c hc => hd ⟨c, hc⟩)]
  generalize (execOp a.eval o).run P w = res at *
  cases res with
  | ok n w' =>
    cases n <;> simp only [Oper.quietUpon] at h3 <;> simp only [Oper.uponIn]
    case value u =>
      obtain ⟨e1, e2⟩ := h3
      rw [e1, e2]
      exact h _ _ hw h2
    case skip =>
      obtain ⟨e1, e2⟩ := h3
      rw [e1, ← e2]
      exact h _ _ hw h2
    case enter f args =>
      obtain ⟨e1, hc⟩ := h3
      rw [e1]
      refine ⟨fun hd => by simp [Fence.wide, Fence.inRound] at hd, CallsIn.inRound r (callsIn_wide.2 (hc.mono fun e w'' ⟨he, hw''⟩ => ?_))⟩
      subst he
      exact h _ _ hw'' h2
  | halt x w' => simp only [Oper.quietUpon] at h3

theorem wpOpIn_of_qOp_round {i : Nat} {a : Act} {K : Act → Prop} {K' : Act → World → Prop} {Q' : Exit → Act → World → Prop} {w : World} (hC : C w) (h : ∀ a w', C w' → K a → K' a w') (hh : qOp P ops C i K a) :
    wpOpIn (Fence.wide.inRound r) 0 P ops Q' i K' a w := by
  unfold qOp at hh
  unfold wpOpIn
  split
  · rename_i ho; simp only [ho] at hh; exact h _ _ hC hh
  · rename_i o ho
    simp only [ho] at hh
    split
    · rename_i hw; simp only [hw, if_true] at hh; exact wpIn_of_quiet_round hC h hh
    · rename_i hw; simp only [hw] at hh; exact ⟨fun _ _ => trivial, h _ _ hC hh⟩

theorem wpAnyIn_of_headQ_round {g : Nat} {L : Array Bool → Act → Prop} {Q' : Exit → Act → World → Prop} (hL : ∀ listed a w, C w → L listed a → wpAnyIn (Fence.wide.inRound r) 0 P md ops Q' g listed a w) :
    ∀ (f : Nat) (listed : Array Bool) (a : Act) (w : World), C w → wpAnyLQ P md ops C L f listed a → wpAnyIn (Fence.wide.inRound r) 0 P md ops Q' (f + g) listed a w
  | 0, listed, a, w, hw, h => by rw [Nat.zero_add]; exact hL _ _ _ hw h
  | f + 1, listed, a, w, hw, h => by
    rw [show f + 1 + g = (f + g) + 1 by omega]
    exact ⟨fun h0 => absurd h0 h.1, fun i hi => wpOpIn_of_qOp_round hw (fun a' w' hw' h' => wpAnyIn_of_headQ_round hL f _ a' w' hw' h') (h.2 i hi)⟩

theorem wpAnyIn_of_seqI_round {Q' : Exit → Act → World → Prop} : ∀ (T : List Nat) (listed : Array Bool) (a : Act) (w : World),
    seqI md ops T listed = true → wpListIn (Fence.wide.inRound r) 0 P ops Q' (pick ops T) a w → wpAnyIn (Fence.wide.inRound r) 0 P md ops Q' T.length listed a w
  | [], _, _, _, hB, h => ⟨by simpa [seqI] using hB, h⟩
  | k :: t, listed, a, w, hB, h => by
    simp only [seqI, Bool.and_eq_true, decide_eq_true_eq] at hB
    refine ⟨fun h1 => (by rw [hB.1] at h1; cases h1), fun i hi => ?_⟩
    obtain ⟨_, o, ho, _⟩ := mem_ready.1 hi
    rw [hB.1] at hi
    have hik : i = k := by simpa using hi
    subst hik
    rw [pick_cons ho] at h
    have hw : wpOpIn (Fence.wide.inRound r) 0 P ops Q' i (wpListIn (Fence.wide.inRound r) 0 P ops Q' (pick ops t)) a w := by unfold wpOpIn; simp only [ho]; exact h
    exact wpOpIn_mono (fun a' w' h' => wpAnyIn_of_seqI_round t _ a' w' hB.2 h') hw

/-- Those of H only read; those of t0 :: T follow, in that order. -/
theorem wpIn_round_mixed {id : Nat} {Q : Exit → Act → World → Prop} {a : Act} {w : World} {l : List Oper} (H : List Nat) (t0 : Nat) (T : List Nat) (hm : P.follows .mixedOrders = true) (hB : mixedB l.toArray [] H t0 T = true)
    (h : wpQuiet P l.toArray (fun w' => ∃ k, w' = w.drewN k) (fun a' => ∀ w', (∃ k, w' = w.drewN k) → wpListIn (Fence.wide.inRound r) 0 P l.toArray Q (pick l.toArray (t0 :: T)) a' w') (pick l.toArray H) a) :
    (Code.region id l.toArray true).wpIn (Fence.wide.inRound r) 0 P Q a w := by
  simp only [mixedB, Bool.and_eq_true, List.all_eq_true, decide_eq_true_eq, beq_iff_eq] at hB
  obtain ⟨⟨⟨hsel, hpre⟩, ⟨⟨⟨⟨⟨hinv, hsz⟩, hsink⟩, hchain⟩, hdis⟩, hlex⟩⟩, hlen⟩ := hB
  have H1 := wpAnyLQ_lexI (md := .any) (C := fun w' => ∃ k, w' = w.drewN k) hsel hsz hsink hchain (fun j hj hT => by
    have := hdis j hj
    have h2 : List.contains (t0 :: T) j = true := by simpa using hT
    rw [h2] at this; cases this) H _ a (fun _ h => h) (inv_of_B hinv) hlex h
  have hL : ∀ (listed : Array Bool) (a' : Act) (w' : World), (∃ k, w' = w.drewN k) → (seqI .any l.toArray (t0 :: T) listed = true ∧ ∀ w', (∃ k, w' = w.drewN k) → wpListIn (Fence.wide.inRound r) 0 P l.toArray Q (pick l.toArray (t0 :: T)) a' w') →
      wpAnyIn (Fence.wide.inRound r) 0 P .any l.toArray Q (t0 :: T).length listed a' w' := fun listed a' w' hw' hL => wpAnyIn_of_seqI_round (t0 :: T) listed a' w' hL.1 (hL.2 w' hw')
  have R : wpAnyIn (Fence.wide.inRound r) 0 P .any l.toArray Q (H.length + (t0 :: T).length) (Array.replicate l.toArray.size false) a { w with drawn := w.drawn + 1 } :=
    wpAnyIn_of_headQ_round (C := fun w' => ∃ k, w' = w.drewN k) hL H.length _ _ _ ⟨1, rfl⟩ H1
  rw [← (show l.toArray.size = H.length + (t0 :: T).length by rw [hlen, List.length_nil, Nat.zero_add])] at R
  exact wpIn_region_any hm R

/-- All that is asked of the numbers. -/
def eitherB (ops : Array Oper) (pre : List Nat) (i j : Nat) (T : List Nat) : Bool :=
  Region.noSelect ops && preB .any ops pre (Array.replicate ops.size false) &&
  (let l := listAll pre (Array.replicate ops.size false)
   decide (Region.ready .any ops l = [i, j]) && seqI .any ops (j :: T) (l.setIfInBounds i true) && seqI .any ops (i :: T) (l.setIfInBounds j true)) &&
  (ops.size == pre.length + (T.length + 1 + 1))

/-- The operations 'pre' copy slots; i and j follow, in either order; then those of T, in that order. -/
theorem wp_region_either {id : Nat} {Q : Exit → Act → World → Prop} {a : Act} {w : World} {l : List Oper} (pre : List Nat) (i j : Nat) (T : List Nat) (hm : P.follows .mixedOrders = true) (hB : eitherB l.toArray pre i j T = true)
    (hQ : ∀ c (a : Act) w t, Q (.panic c) { a with tmps := t } w → Q (.panic c) a w)
    (h1 : wpList P l.toArray Q (pick l.toArray (i :: j :: T)) (movesOf l.toArray pre a) (w.drewN 1)) (h2 : wpList P l.toArray Q (pick l.toArray (j :: i :: T)) (movesOf l.toArray pre a) (w.drewN 1)) :
    (Code.region id l.toArray true).wp P Q a w := by
  simp only [eitherB, Bool.and_eq_true, decide_eq_true_eq, beq_iff_eq] at hB
  obtain ⟨⟨⟨hsel, hpre⟩, ⟨⟨hr, hs1⟩, hs2⟩⟩, hlen⟩ := hB
  have step : ∀ k (T' : List Nat), k ∈ [i, j] → seqI .any l.toArray T' ((listAll pre (Array.replicate l.toArray.size false)).setIfInBounds k true) = true → wpList P l.toArray Q (pick l.toArray (k :: T')) (movesOf l.toArray pre a) (w.drewN 1) →
      wpOp P l.toArray Q k (wpAny P .any l.toArray Q T'.length ((listAll pre (Array.replicate l.toArray.size false)).setIfInBounds k true)) (movesOf l.toArray pre a) (w.drewN 1) := fun k T' hk hs h => by
    rw [← hr] at hk
    obtain ⟨_, o, ho, _⟩ := mem_ready.1 hk
    rw [pick_cons ho] at h
    have hw : wpOp P l.toArray Q k (wpList P l.toArray Q (pick l.toArray T')) (movesOf l.toArray pre a) (w.drewN 1) := by unfold wpOp; simp only [ho]; exact h
    exact wpOp_mono (fun a' w' h' => wpAny_of_seqI T' _ a' w' hs h') hw
  have R : wpAny P .any l.toArray Q (pre.length + (T.length + 1 + 1)) (Array.replicate l.toArray.size false) a { w with drawn := w.drawn + 1 } := by
    refine wpAny_of_pre hsel hQ pre _ _ hpre ⟨fun h0 => (by rw [hr] at h0; cases h0), fun k hk => ?_⟩
    rw [hr] at hk
    rcases List.mem_cons.1 hk with rfl | hk'
    · exact step _ (j :: T) hk hs1 h1
    · have : k = j := by simpa using hk'
      subst this
      exact step _ (i :: T) hk hs2 h2
  rw [← hlen] at R
  exact wp_region_any hm R

/-- A postcondition that no panic meets. -/
def calm (Q : Exit → Act → World → Prop) : Exit → Act → World → Prop
  | .panic _, _, _ => False
  | .normal, a, w => Q .normal a w
  | .ret, a, w => Q .ret a w
  | .exit i, a, w => Q (.exit i) a w
  | .goto t, a, w => Q (.goto t) a w
  | .outgrown, a, w => Q .outgrown a w

theorem wp_calm {c : Code} {Q : Exit → Act → World → Prop} {a : Act} {w : World} (h : c.wp P (calm Q) a w) : c.wp P Q a w :=
  wp_mono h fun e a w he => by cases e <;> first | exact he | exact he.elim

/-- The result, where it is a cell of one value. -/
theorem results_cell_one {fn : Func} {p : Tmp} {ty : TypeId} (h : fn.results = #[.cell p ty]) (tmps : Array Value) (w : World) (ad : Addr) (v : Value) (d : TypeDesc)
    (hp : tmps.getD p undef = .pointer (some ad)) (hc : w.cell? ad = some v) (hu : P.underlying ty = some d) (hd : (match d with | .struct _ | .array _ _ => false | _ => true) = true) :
    (results fn tmps).run P w = .ok v w := by
  have hagg : (isAgg ty).run P w = .ok false w := by
    unfold isAgg
    rw [Sem.run_bind, run_underlying hu w]
    cases d <;> simp_all
  have hp' : tmps[p]?.getD undef = .pointer (some ad) := by simpa using hp
  simp [results, h, hp', asAddr, loadVar, Sem.run_bind, hagg, hc, go_sem]

end
end Go.Gav
