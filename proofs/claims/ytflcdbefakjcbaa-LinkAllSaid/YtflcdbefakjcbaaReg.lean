/- Laws on regions that draw their order: some copies of slots first, then operations that only read (calls that only read among them), in whatever order, then a chain of operations in a fixed order. No statement is proved here. -/
import Derived.StillTail
import Derived.Deep.Quiet
import Derived.BigRegion
namespace Go.Gav
open Go

/-- The operations of the given numbers. -/
def consO : Option Oper → List Oper → List Oper
  | none, l => l
  | some o, l => o :: l
def pick (ops : Array Oper) : List Nat → List Oper
  | [] => []
  | i :: is => consO ops[i]? (pick ops is)

section
variable {P : Program} {ops : Array Oper} {md : Region.Mode} {C : World → Prop}

theorem pick_cons {k : Nat} {is : List Nat} {o : Oper} (h : ops[k]? = some o) : pick ops (k :: is) = o :: pick ops is := by simp [pick, consO, h]

def sinkI (md : Region.Mode) (ops : Array Oper) : List Nat → Bool
  | [] => true
  | i :: rest => (rest.isEmpty || rest.any fun j => Region.waitsFor md ops j i) && sinkI md ops rest

def chainI (md : Region.Mode) (ops : Array Oper) : List Nat → Bool
  | [] => true
  | a :: r => (match r with | [] => true | b :: _ => Region.waitsFor md ops b a) && chainI md ops r

structure HInv (md : Region.Mode) (ops : Array Oper) (H T : List Nat) (listed : Array Bool) : Prop where
  size : listed.size = ops.size
  closed : ∀ j oj, ops[j]? = some oj → listed.getD j false = true → ∀ e ∈ oj.after, Region.binds md e = true → listed.getD e.on false = true
  tail : ∀ t ∈ T, listed.getD t true = false
  rest : ∀ j, j < ops.size → j ∉ H → j ∉ T → listed.getD j true = true

theorem HInv.set {H T : List Nat} {i : Nat} {listed : Array Bool} (inv : HInv md ops H T listed) (hi : i ∈ Region.ready md ops listed) (hin : i ∉ T) : HInv md ops H T (listed.setIfInBounds i true) := by
  obtain ⟨_, oi, hoi, hall⟩ := mem_ready.1 hi
  refine ⟨by simp [inv.size], fun j oj hj hl e he hb => ?_, fun t ht => by rw [getD_set_ne true (fun x => hin (by rw [x]; exact ht))]; exact inv.tail t ht, fun j h1 h2 h3 => ?_⟩
  · by_cases hij : i = j
    · subst hij
      have : oj = oi := Option.some.inj (hj.symm.trans hoi)
      subst this
      exact getD_set_true (hall e he hb)
    · rw [getD_set_ne false hij] at hl
      exact getD_set_true (inv.closed j oj hj hl e he hb)
  · by_cases hij : i = j
    · subst hij
      rcases Nat.lt_or_ge i listed.size with h | h
      · simp [h]
      · simp
    · rw [getD_set_ne true hij]; exact inv.rest j h1 h2 h3

theorem not_ready_of_waits {j i : Nat} {listed : Array Bool} (hw : Region.waitsFor md ops j i = true) (hu : listed.getD i true = false) : j ∉ Region.ready md ops listed := by
  intro hr
  obtain ⟨_, oj, hoj, hall⟩ := mem_ready.1 hr
  obtain ⟨o', ho', e, he, hb, hon⟩ := Region.waitsFor_spec hw
  have : o' = oj := Option.some.inj (ho'.symm.trans hoj)
  subst this
  have h2 := hall e he hb
  rw [hon, getD_both hu] at h2
  cases h2

theorem sink_waits {t0 : Nat} {listed : Array Bool} {T : List Nat} {H0 : List Nat} (inv : HInv md ops H0 T listed) (ht : listed.getD t0 true = false) (hsz : ∀ j ∈ H0, j < ops.size) :
    ∀ (H : List Nat), (∀ j ∈ H, j ∈ H0) → sinkI md ops (H ++ [t0]) = true → (∃ i ∈ H, listed.getD i true = false) → t0 ∉ Region.ready md ops listed
  | [], _, _, ⟨_, h, _⟩ => by cases h
  | h :: H, hsub, hs, ⟨i, hi, hu⟩ => by
    simp only [List.cons_append, sinkI, Bool.and_eq_true, Bool.or_eq_true, List.isEmpty_iff, List.append_eq_nil_iff, List.cons_ne_self, and_false, false_or] at hs
    by_cases hex : ∃ i ∈ H, listed.getD i true = false
    · exact sink_waits inv ht hsz H (fun j hj => hsub j (List.mem_cons_of_mem _ hj)) hs.2 hex
    · have hih : i = h := by
        rcases List.mem_cons.1 hi with h' | h'
        · exact h'
        · exact absurd ⟨i, h', hu⟩ hex
      subst hih
      obtain ⟨j, hj, hw⟩ := List.any_eq_true.1 hs.1
      rcases List.mem_append.1 hj with hj | hj
      · -- a head operation that waits for this one: unlisted
        obtain ⟨oj, hoj, e, he, hb, hon⟩ := Region.waitsFor_spec hw
        cases hl : listed.getD j false with
        | true =>
          have h2 := inv.closed j oj hoj hl e he hb
          rw [hon, getD_both hu] at h2
          cases h2
        | false =>
          have hjs : j < listed.size := by rw [inv.size]; exact hsz j (hsub j (List.mem_cons_of_mem _ hj))
          exact absurd ⟨j, hj, getD_in hjs hl⟩ hex
      · have : j = t0 := by simpa using hj
        subst this
        exact not_ready_of_waits hw hu

theorem chain_waits {t : Nat} : ∀ (t0 : Nat) (T : List Nat), chainI md ops (t0 :: T) = true → t ∈ T → ∃ s ∈ t0 :: T, Region.waitsFor md ops t s = true
  | _, [], _, h => by cases h
  | t0, b :: T, hc, h => by
    simp only [chainI, Bool.and_eq_true] at hc
    rcases List.mem_cons.1 h with h | h
    · subst h; exact ⟨t0, by simp, hc.1⟩
    · obtain ⟨s, hs, hw⟩ := chain_waits b T (by simp only [chainI, Bool.and_eq_true]; exact hc.2) h
      exact ⟨s, List.mem_cons_of_mem _ hs, hw⟩

theorem ready_head {H T : List Nat} {t0 : Nat} {listed : Array Bool} (inv : HInv md ops H (t0 :: T) listed) (hsz : ∀ j ∈ H, j < ops.size) (hs : sinkI md ops (H ++ [t0]) = true)
    (hc : chainI md ops (t0 :: T) = true) (hex : ∃ i ∈ H, listed.getD i true = false) {j : Nat} (hj : j ∈ Region.ready md ops listed) : j ∈ H := by
  obtain ⟨hun, oj, hoj, _⟩ := mem_ready.1 hj
  by_cases hH : j ∈ H
  · exact hH
  · exfalso
    by_cases hT : j ∈ t0 :: T
    · rcases List.mem_cons.1 hT with h | h
      · subst h
        exact sink_waits inv (inv.tail _ (by simp)) hsz H (fun _ h => h) hs hex hj
      · obtain ⟨s, hs', hw⟩ := chain_waits t0 T hc h
        exact not_ready_of_waits hw (inv.tail s hs') hj
    · have := inv.rest j (Array.getElem?_eq_some_iff.1 hoj).1 hH hT
      rw [this] at hun
      cases hun

def wpAnyLQ (P : Program) (md : Region.Mode) (ops : Array Oper) (C : World → Prop) (L : Array Bool → Act → Prop) : Nat → Array Bool → Act → Prop
  | 0, listed, a => L listed a
  | f + 1, listed, a =>
    Region.ready md ops listed ≠ [] ∧ ∀ i ∈ Region.ready md ops listed, qOp P ops C i (wpAnyLQ P md ops C L f (listed.setIfInBounds i true)) a

theorem wpAny_of_headQ {g : Nat} {L : Array Bool → Act → Prop} {Q' : Exit → Act → World → Prop} (hL : ∀ listed a w, C w → L listed a → wpAny P md ops Q' g listed a w) :
    ∀ (f : Nat) (listed : Array Bool) (a : Act) (w : World), C w → wpAnyLQ P md ops C L f listed a → wpAny P md ops Q' (f + g) listed a w
  | 0, listed, a, w, hw, h => by rw [Nat.zero_add]; exact hL _ _ _ hw h
  | f + 1, listed, a, w, hw, h => by
    rw [show f + 1 + g = (f + g) + 1 by omega]
    exact ⟨fun h0 => absurd h0 h.1, fun i hi => wpOp_of_qOp hw (fun a' w' hw' h' => wpAny_of_headQ hL f _ a' w' hw' h') (h.2 i hi)⟩

theorem wpAnyLQ_first {H T : List Nat} {t0 i : Nat} {oi : Oper} {v : Value} {L : Array Bool → Act → Prop} (hi : ops[i]? = some oi) (hsel : ∀ (j : Nat) (o : Oper) cs b, ops[j]? = some o → o.op ≠ .select cs b)
    (hsz : ∀ j ∈ H, j < ops.size) (hs : sinkI md ops (H ++ [t0]) = true) (hc : chainI md ops (t0 :: T) = true) (hdis : ∀ j ∈ H, j ∉ t0 :: T) (hin : i ∈ H)
    (hdone : ∀ listed a, L listed a → ∀ j ∈ Region.ready md ops listed, j ∈ t0 :: T) :
    ∀ (f : Nat) (listed : Array Bool) (a : Act), HInv md ops H (t0 :: T) listed →
      (∀ j oj, ops[j]? = some oj → j ≠ i → listed.getD j true = false → (∀ e ∈ oj.after, Region.binds md e = true → e.on ≠ i) → oi.apart ops oj = true) →
      i ∈ Region.ready md ops listed → YieldsIn P ops C oi v a →
      wpAnyLQ P md ops C L f (listed.setIfInBounds i true) (a.put oi.dst v) → wpAnyLQ P md ops C L (f + 1) listed a := by
  intro f
  induction f with
  | zero =>
    intro listed a inv _ hr hy H
    have hun := (mem_ready.1 hr).1
    refine ⟨fun h => (by rw [h] at hr; cases hr), fun j hj => ?_⟩
    have hjn := ready_head inv hsz hs hc ⟨i, hin, hun⟩ hj
    by_cases hji : j = i
    · subst hji; exact hy.qOp hi H
    · exact absurd (hdone _ _ H j (ready_mono hj hji)) (hdis j hjn)
  | succ f ih =>
    intro listed a inv hfree hr hy H
    have hun := (mem_ready.1 hr).1
    refine ⟨fun h => (by rw [h] at hr; cases hr), fun j hj => ?_⟩
    have hjn := ready_head inv hsz hs hc ⟨i, hin, hun⟩ hj
    by_cases hji : j = i
    · subst hji; exact hy.qOp hi H
    · have h1 := H.2 j (ready_mono hj hji)
      obtain ⟨hjun, oj, hoj, hall⟩ := mem_ready.1 hj
      have hnot : ∀ e ∈ oj.after, Region.binds md e = true → e.on ≠ i := fun e he hb heq => by
        have h1 := hall e he hb
        rw [heq, getD_both hun] at h1
        cases h1
      have h2 := qOp_put hoj (hfree j oj hoj hji hjun hnot) (fun cs b => hsel i oi cs b hi) (fun cs b => hsel j oj cs b hoj) hy h1
      have hfree' : ∀ k ok, ops[k]? = some ok → k ≠ i → (listed.setIfInBounds j true).getD k true = false →
          (∀ e ∈ ok.after, Region.binds md e = true → e.on ≠ i) → oi.apart ops ok = true := fun k ok hk hki hun hno => by
        refine hfree k ok hk hki ?_ hno
        by_cases hjk : j = k
        · subst hjk; exact hjun
        · rw [getD_set_ne true hjk] at hun; exact hun
      refine qOp_mono (fun a' h3 => ih (listed.setIfInBounds j true) a' (inv.set hj (hdis j hjn)) hfree' (ready_mono hr (Ne.symm hji)) h3.1 ?_) h2
      rw [Array.setIfInBounds_comm _ _ hji]
      exact h3.2

def seqI (md : Region.Mode) (ops : Array Oper) : List Nat → Array Bool → Bool
  | [], listed => (Region.ready md ops listed).isEmpty
  | k :: t, listed => decide (Region.ready md ops listed = [k]) && seqI md ops t (listed.setIfInBounds k true)

def lexHeadI (md : Region.Mode) (ops : Array Oper) (T : List Nat) : List Nat → Array Bool → Bool
  | [], listed => seqI md ops T listed
  | k :: is, listed => (Region.ready md ops listed).contains k && Region.free md ops listed k && lexHeadI md ops T is (listed.setIfInBounds k true)

theorem seqI_ready {T : List Nat} {listed : Array Bool} (h : seqI md ops T listed = true) : ∀ j ∈ Region.ready md ops listed, j ∈ T := by
  cases T with
  | nil => intro j hj; simp only [seqI, List.isEmpty_iff] at h; rw [h] at hj; cases hj
  | cons k t =>
    intro j hj
    simp only [seqI, Bool.and_eq_true, decide_eq_true_eq] at h
    rw [h.1] at hj
    have : j = k := by simpa using hj
    subst this; simp

theorem wpAny_of_seqI {Q' : Exit → Act → World → Prop} : ∀ (T : List Nat) (listed : Array Bool) (a : Act) (w : World),
    seqI md ops T listed = true → wpList P ops Q' (pick ops T) a w → wpAny P md ops Q' T.length listed a w
  | [], _, _, _, hB, h => ⟨by simpa [seqI] using hB, h⟩
  | k :: t, listed, a, w, hB, h => by
    simp only [seqI, Bool.and_eq_true, decide_eq_true_eq] at hB
    refine ⟨fun h1 => (by rw [hB.1] at h1; cases h1), fun i hi => ?_⟩
    obtain ⟨_, o, ho, _⟩ := mem_ready.1 hi
    rw [hB.1] at hi
    have hik : i = k := by simpa using hi
    subst hik
    rw [pick_cons ho] at h
    have hw : wpOp P ops Q' i (wpList P ops Q' (pick ops t)) a w := by unfold wpOp; simp only [ho]; exact h
    exact wpOp_mono (fun a' w' h' => wpAny_of_seqI t _ a' w' hB.2 h') hw

theorem wpAnyLQ_lexI {H T : List Nat} {t0 : Nat} {Lq : Act → Prop} (hsel : Region.noSelect ops = true) (hsz : ∀ j ∈ H, j < ops.size) (hs : sinkI md ops (H ++ [t0]) = true)
    (hc : chainI md ops (t0 :: T) = true) (hdis : ∀ j ∈ H, j ∉ t0 :: T) :
    ∀ (is : List Nat) (listed : Array Bool) (a : Act), (∀ i ∈ is, i ∈ H) → HInv md ops H (t0 :: T) listed →
    lexHeadI md ops (t0 :: T) is listed = true → wpQuiet P ops C Lq (pick ops is) a →
    wpAnyLQ P md ops C (fun listed' a' => seqI md ops (t0 :: T) listed' = true ∧ Lq a') is.length listed a
  | [], _, _, _, _, hB, h => ⟨hB, h⟩
  | k :: is, listed, a, hsub, inv, hB, h => by
    simp only [lexHeadI, Bool.and_eq_true] at hB
    obtain ⟨⟨hr, hf⟩, hB'⟩ := hB
    have hr' : k ∈ Region.ready md ops listed := by simpa using hr
    obtain ⟨_, o, h0, _⟩ := mem_ready.1 hr'
    rw [pick_cons h0] at h
    have hst : qOp P ops C k (wpQuiet P ops C Lq (pick ops is)) a := by unfold qOp; simp only [h0]; exact h
    obtain ⟨v, hy, hK⟩ := yieldsIn_of_qOp h0 hst
    exact wpAnyLQ_first h0 (Region.noSelect_spec hsel) hsz hs hc hdis (hsub k (by simp)) (fun listed' a' hL => seqI_ready hL.1) is.length listed a inv (Region.free_spec h0 hf) hr' hy
      (wpAnyLQ_lexI hsel hsz hs hc hdis is _ _ (fun i hi => hsub i (List.mem_cons_of_mem _ hi)) (inv.set hr' (hdis k (hsub k (by simp)))) hB' hK)

/-- A callee's contract in a region that is not the first one to draw. -/
theorem quiet_of2 {f : FuncId} {args : Array Value} {w : World} {j n : Nat} {v : Value}
    (h : Calls P f args (w.drewN (j + n)) fun e w' => e = .returned v ∧ ∃ m, w' = (w.drewN (j + n)).drewN m) : Calls P f args (w.drewN (j + n)) fun e w'' => e = .returned v ∧ ∃ m, w'' = w.drewN (j + m) :=
  h.mono fun _ _ ⟨he, m, hm⟩ => ⟨he, n + m, by rw [hm, World.drewN_drewN, Nat.add_assoc]⟩

theorem quiet_of_same2 {f : FuncId} {args : Array Value} {w : World} {j n : Nat} {v : Value}
    (h : Calls P f args (w.drewN (j + n)) fun e w' => e = .returned v ∧ w' = w.drewN (j + n)) : Calls P f args (w.drewN (j + n)) fun e w'' => e = .returned v ∧ ∃ m, w'' = w.drewN (j + m) :=
  h.mono fun _ _ ⟨he, hm⟩ => ⟨he, n, hm⟩

/-! ### Copies of slots, taken first -/
def moveOf (o : Oper) : Option Operand :=
  match o.guard, o.op with
  | none, .move x => some x
  | none, .assign x => some x
  | _, _ => none

def movesOf (ops : Array Oper) : List Nat → Act → Act
  | [], a => a
  | i :: is, a => movesOf ops is (match ops[i]? with
    | some o => (match moveOf o with | some x => a.put o.dst (a.eval x) | none => a)
    | none => a)

def preB (md : Region.Mode) (ops : Array Oper) : List Nat → Array Bool → Bool
  | [], _ => true
  | i :: is, listed => (match ops[i]? with | some o => (moveOf o).isSome | none => false) && (Region.ready md ops listed).contains i && Region.free md ops listed i && preB md ops is (listed.setIfInBounds i true)

def listAll : List Nat → Array Bool → Array Bool
  | [], l => l
  | i :: is, l => listAll is (l.setIfInBounds i true)

theorem yields_of_move {o : Oper} {x : Operand} (h : moveOf o = some x) (a : Act) : Yields P ops o (a.eval x) a := by
  unfold moveOf at h
  split at h
  · rename_i hg hop
    cases h
    exact .inl ⟨by simp [Region.wanted, hg], fun w => BigFrame.run_move x hop w⟩
  · rename_i hg hop
    cases h
    exact .inl ⟨by simp [Region.wanted, hg], fun w => BigFrame.run_assign x hop w⟩
  · cases h

theorem put_tmps (a : Act) (d : Option Tmp) (v : Value) : a.put d v = { a with tmps := (a.put d v).tmps } := by
  cases d <;> rfl

theorem wpAny_of_pre {Q : Exit → Act → World → Prop} (hs : Region.noSelect ops = true) (hQ : ∀ c (a : Act) w t, Q (.panic c) { a with tmps := t } w → Q (.panic c) a w) {fuel : Nat} {w : World} :
    ∀ (pre : List Nat) (listed : Array Bool) (a : Act), preB md ops pre listed = true → wpAny P md ops Q fuel (listAll pre listed) (movesOf ops pre a) w → wpAny P md ops Q (pre.length + fuel) listed a w
  | [], listed, a, _, h => by rw [List.length_nil, Nat.zero_add]; exact h
  | i :: is, listed, a, hB, h => by
    simp only [preB, Bool.and_eq_true] at hB
    obtain ⟨⟨⟨hm, hr⟩, hf⟩, hB'⟩ := hB
    cases ho : ops[i]? with
    | none => simp [ho] at hm
    | some o =>
      simp only [ho] at hm
      obtain ⟨x, hx⟩ := Option.isSome_iff_exists.1 hm
      have h' : wpAny P md ops Q fuel (listAll is (listed.setIfInBounds i true)) (movesOf ops is (a.put o.dst (a.eval x))) w := by
        have := h
        simp only [movesOf, ho, hx, listAll] at this
        exact this
      rw [show (i :: is).length + fuel = (is.length + fuel) + 1 by simp; omega]
      exact wpAny_take ho hs hf hr (fun c a w h => hQ c a w _ (by rw [put_tmps] at h; exact h)) (yields_of_move hx a) (wpAny_of_pre hs hQ is _ _ hB' h')

def invB (md : Region.Mode) (ops : Array Oper) (H T : List Nat) (listed : Array Bool) : Bool :=
  (listed.size == ops.size) &&
  ((List.range ops.size).all fun j => !listed.getD j false || (match ops[j]? with | some oj => oj.after.all fun e => !Region.binds md e || listed.getD e.on false | none => true)) &&
  (T.all fun t => !listed.getD t true) &&
  ((List.range ops.size).all fun j => H.contains j || T.contains j || listed.getD j true)

theorem inv_of_B {H T : List Nat} {listed : Array Bool} (h : invB md ops H T listed = true) : HInv md ops H T listed := by
  simp only [invB, Bool.and_eq_true, beq_iff_eq] at h
  obtain ⟨⟨⟨h1, h2⟩, h3⟩, h4⟩ := h
  refine ⟨h1, fun j oj hj hl e he hb => ?_, fun t ht => ?_, fun j hj hH hT => ?_⟩
  · have := List.all_eq_true.1 h2 j (List.mem_range.2 (Array.getElem?_eq_some_iff.1 hj).1)
    simp only [hj, hl, Bool.not_true, Bool.false_or] at this
    have := Array.all_eq_true'.1 this e he
    simpa [hb] using this
  · have := List.all_eq_true.1 h3 t ht
    simpa using this
  · have := List.all_eq_true.1 h4 j (List.mem_range.2 hj)
    simp only [Bool.or_eq_true, List.contains_iff_mem] at this
    rcases this with (h | h) | h
    · exact absurd h hH
    · exact absurd h hT
    · exact h

/-- All that is asked of the numbers. -/
def mixedB (ops : Array Oper) (pre H : List Nat) (t0 : Nat) (T : List Nat) : Bool :=
  Region.noSelect ops && preB .any ops pre (Array.replicate ops.size false) &&
  (let l := listAll pre (Array.replicate ops.size false)
   invB .any ops H (t0 :: T) l && (H.all fun j => decide (j < ops.size)) && sinkI .any ops (H ++ [t0]) && chainI .any ops (t0 :: T) && (H.all fun j => !(t0 :: T).contains j) && lexHeadI .any ops (t0 :: T) H l) &&
  (ops.size == pre.length + (H.length + (t0 :: T).length))

/-- The operations 'pre' copy slots; those of H only read; those of t0 :: T follow, in that order. -/
theorem wp_region_mixed {id : Nat} {Q : Exit → Act → World → Prop} {a : Act} {w : World} {l : List Oper} (pre H : List Nat) (t0 : Nat) (T : List Nat) (hm : P.follows .mixedOrders = true) (hB : mixedB l.toArray pre H t0 T = true)
    (hQ : ∀ c (a : Act) w t, Q (.panic c) { a with tmps := t } w → Q (.panic c) a w)
    (h : wpQuiet P l.toArray (fun w' => ∃ k, w' = w.drewN k) (fun a' => ∀ w', (∃ k, w' = w.drewN k) → wpList P l.toArray Q (pick l.toArray (t0 :: T)) a' w') (pick l.toArray H) (movesOf l.toArray pre a)) :
    (Code.region id l.toArray true).wp P Q a w := by
  simp only [mixedB, Bool.and_eq_true, List.all_eq_true, decide_eq_true_eq, beq_iff_eq] at hB
  obtain ⟨⟨⟨hsel, hpre⟩, ⟨⟨⟨⟨⟨hinv, hsz⟩, hsink⟩, hchain⟩, hdis⟩, hlex⟩⟩, hlen⟩ := hB
  have H1 := wpAnyLQ_lexI (md := .any) (C := fun w' => ∃ k, w' = w.drewN k) hsel hsz hsink hchain (fun j hj hT => by
    have := hdis j hj
    have h2 : List.contains (t0 :: T) j = true := by simpa using hT
    rw [h2] at this; cases this) H _ (movesOf l.toArray pre a) (fun _ h => h) (inv_of_B hinv) hlex h
  have hL : ∀ (listed : Array Bool) (a' : Act) (w' : World), (∃ k, w' = w.drewN k) → (seqI .any l.toArray (t0 :: T) listed = true ∧ ∀ w', (∃ k, w' = w.drewN k) → wpList P l.toArray Q (pick l.toArray (t0 :: T)) a' w') →
      wpAny P .any l.toArray Q (t0 :: T).length listed a' w' := fun listed a' w' hw' hL => wpAny_of_seqI (t0 :: T) listed a' w' hL.1 (hL.2 w' hw')
  have R : wpAny P .any l.toArray Q (pre.length + (H.length + (t0 :: T).length)) (Array.replicate l.toArray.size false) a { w with drawn := w.drawn + 1 } :=
    wpAny_of_pre hsel hQ pre _ _ hpre (wpAny_of_headQ (C := fun w' => ∃ k, w' = w.drewN k) hL H.length _ _ _ ⟨1, rfl⟩ H1)
  rw [← hlen] at R
  exact wp_region_any hm R

end
end Go.Gav
