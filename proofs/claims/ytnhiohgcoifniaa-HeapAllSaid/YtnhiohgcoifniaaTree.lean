/- A law on drawn regions: all orders, given as a tree. No statement is proved here. -/
import Derived.Test.YtnhiohgcoifniaaRnd
namespace Go.Gav
open Go

mutual
/-- Operations one behind the other, then one of several ways on. -/
inductive Tree where
  | node : List Nat → Forest → Tree
inductive Forest where
  | nil : Forest
  | cons : Tree → Forest → Forest
end

def Tree.head : Tree → Nat
  | .node is _ => is.headD 0
def Forest.heads : Forest → List Nat
  | .nil => []
  | .cons t f => t.head :: f.heads

def chainB (md : Region.Mode) (ops : Array Oper) : List Nat → Array Bool → Bool
  | [], _ => true
  | k :: t, listed => decide (Region.ready md ops listed = [k]) && chainB md ops t (listed.setIfInBounds k true)

mutual
def Tree.ok (md : Region.Mode) (ops : Array Oper) : Tree → Nat → Array Bool → Bool
  | .node is f, n, listed => match is with
    | [] => false
    | i :: r => decide (r.length + 1 ≤ n) && chainB md ops r (listed.setIfInBounds i true) && f.okAll md ops (n - (r.length + 1)) (listAll r (listed.setIfInBounds i true)) && f.okEnd md ops (n - (r.length + 1)) (listAll r (listed.setIfInBounds i true))
def Forest.okAll (md : Region.Mode) (ops : Array Oper) : Forest → Nat → Array Bool → Bool
  | .nil, _, _ => true
  | .cons t f, n, listed => t.ok md ops n listed && f.okAll md ops n listed
def Forest.okEnd (md : Region.Mode) (ops : Array Oper) : Forest → Nat → Array Bool → Bool
  | .nil, n, listed => decide (n = 0) && decide (Region.ready md ops listed = [])
  | .cons t f, n, listed => decide (0 < n) && decide (Region.ready md ops listed = (Forest.cons t f).heads)
end

section
variable {P : Program} {ops : Array Oper} {md : Region.Mode} {Q : Exit → Act → World → Prop}

mutual
def Tree.wp (P : Program) (ops : Array Oper) (Q : Exit → Act → World → Prop) : Tree → Act → World → Prop
  | .node is f, a, w => wpList P ops (Exit.then (fun a w => endOf P ops Q f a w) Q) (pick ops is) a w
/-- What is asked behind the operations of a tree's root. -/
def endOf (P : Program) (ops : Array Oper) (Q : Exit → Act → World → Prop) : Forest → Act → World → Prop
  | .nil, a, w => Q .normal a w
  | .cons t f, a, w => t.wp P ops Q a w ∧ f.wps P ops Q a w
def Forest.wps (P : Program) (ops : Array Oper) (Q : Exit → Act → World → Prop) : Forest → Act → World → Prop
  | .nil, _, _ => True
  | .cons t f, a, w => t.wp P ops Q a w ∧ f.wps P ops Q a w
end

theorem wpOp_cut {i : Nat} {K : Act → World → Prop} {K' : Act → World → Prop} {a : Act} {w : World} (h : wpOp P ops (Exit.then K Q) i K' a w) : wpOp P ops Q i K' a w := by
  unfold wpOp at *
  cases ho : ops[i]? with
  | none => simp only [ho] at h; exact h
  | some o =>
    simp only [ho] at h ⊢
    split
    · rename_i hw
      simp only [hw, if_true] at h
      unfold Oper.wp at *
      generalize (execOp a.eval o).run P w = r at *
      cases r with
      | ok x w' =>
        cases x <;> simp only [Oper.upon] at h ⊢ <;> first | exact h | exact h.mono (fun e w'' he => by cases e <;> exact he)
      | halt x w' => cases x <;> simp only [Oper.upon] at h ⊢ <;> exact h
    · rename_i hw
      simp only [hw] at h
      exact h

theorem wpAny_chain {K : Act → World → Prop} {n : Nat} : ∀ (is : List Nat) (listed : Array Bool) (a : Act) (w : World), (∀ a w, K a w → wpAny P md ops Q n (listAll is listed) a w) → chainB md ops is listed = true →
    wpList P ops (Exit.then K Q) (pick ops is) a w → wpAny P md ops Q (is.length + n) listed a w
  | [], listed, a, w, hK, _, h => by rw [List.length_nil, Nat.zero_add]; exact hK a w h
  | k :: t, listed, a, w, hK, hB, h => by
    simp only [chainB, Bool.and_eq_true, decide_eq_true_eq] at hB
    rw [show (k :: t).length + n = (t.length + n) + 1 by simp; omega]
    refine ⟨fun h1 => (by rw [hB.1] at h1; cases h1), fun i hi => ?_⟩
    obtain ⟨_, o, ho, _⟩ := mem_ready.1 hi
    rw [hB.1] at hi
    have hik : i = k := by simpa using hi
    subst hik
    rw [pick_cons ho] at h
    have hw : wpOp P ops (Exit.then K Q) i (wpList P ops (Exit.then K Q) (pick ops t)) a w := by unfold wpOp; simp only [ho]; exact h
    exact wpOp_cut (wpOp_mono (fun a' w' h' => wpAny_chain t _ a' w' hK hB.2 h') hw)

mutual
theorem wp_tree : ∀ (t : Tree) (n : Nat) (listed : Array Bool) (a : Act) (w : World), t.ok md ops n listed = true → t.head ∈ Region.ready md ops listed → t.wp P ops Q a w →
    wpOp P ops Q t.head (wpAny P md ops Q (n - 1) (listed.setIfInBounds t.head true)) a w
  | .node is f, n, listed, a, w, hB, hm, h => by
    cases is with
    | nil => simp [Tree.ok] at hB
    | cons i r =>
      simp only [Tree.ok, Bool.and_eq_true, decide_eq_true_eq] at hB
      obtain ⟨⟨⟨hn, hc⟩, ha⟩, he⟩ := hB
      have hi : (Tree.node (i :: r) f).head = i := rfl
      rw [hi] at hm ⊢
      obtain ⟨_, o, ho, _⟩ := mem_ready.1 hm
      have h1 : wpList P ops (Exit.then (fun a w => endOf P ops Q f a w) Q) (pick ops (i :: r)) a w := by simpa only [Tree.wp] using h
      rw [pick_cons ho] at h1
      have hw : wpOp P ops (Exit.then (fun a w => endOf P ops Q f a w) Q) i (wpList P ops (Exit.then (fun a w => endOf P ops Q f a w) Q) (pick ops r)) a w := by unfold wpOp; simp only [ho]; exact h1
      refine wpOp_cut (wpOp_mono (fun a' w' h' => ?_) hw)
      have := wpAny_chain (md := md) (n := n - (r.length + 1)) r (listed.setIfInBounds i true) a' w' (fun a w hK => wp_forest f _ _ a w ha he hK) hc h'
      rwa [show r.length + (n - (r.length + 1)) = n - 1 by omega] at this
theorem wp_forest : ∀ (f : Forest) (n : Nat) (listed : Array Bool) (a : Act) (w : World), f.okAll md ops n listed = true → f.okEnd md ops n listed = true → endOf P ops Q f a w → wpAny P md ops Q n listed a w
  | .nil, n, listed, a, w, _, hB, h => by
    simp only [Forest.okEnd, Bool.and_eq_true, decide_eq_true_eq] at hB
    obtain ⟨rfl, hr⟩ := hB
    exact ⟨hr, by simpa only [endOf] using h⟩
  | .cons t f, n, listed, a, w, hA, hB, h => by
    simp only [Forest.okEnd, Bool.and_eq_true, decide_eq_true_eq] at hB
    obtain ⟨hn, hr⟩ := hB
    obtain ⟨m, rfl⟩ : ∃ m, n = m + 1 := ⟨n - 1, by omega⟩
    refine ⟨fun h0 => (by rw [hr] at h0; cases h0), fun i hi => ?_⟩
    rw [hr] at hi
    simp only [Forest.okAll, Bool.and_eq_true] at hA
    simp only [endOf] at h
    simp only [Forest.heads, List.mem_cons] at hi
    have hmem : ∀ j, j ∈ t.head :: f.heads → j ∈ Region.ready md ops listed := fun j hj => by rw [hr]; exact hj
    rcases hi with rfl | hi
    · exact wp_tree t (m + 1) listed a w hA.1 (hmem _ (by simp)) h.1
    · exact wp_many f (m + 1) listed a w hA.2 (fun j hj => hmem j (by simp [hj])) h.2 i hi
theorem wp_many : ∀ (f : Forest) (n : Nat) (listed : Array Bool) (a : Act) (w : World), f.okAll md ops n listed = true → (∀ j ∈ f.heads, j ∈ Region.ready md ops listed) → f.wps P ops Q a w →
    ∀ i ∈ f.heads, wpOp P ops Q i (wpAny P md ops Q (n - 1) (listed.setIfInBounds i true)) a w
  | .nil, _, _, _, _, _, _, _ => fun i hi => by cases hi
  | .cons t f, n, listed, a, w, hA, hm, h => fun i hi => by
    simp only [Forest.okAll, Bool.and_eq_true] at hA
    simp only [Forest.wps] at h
    simp only [Forest.heads, List.mem_cons] at hi
    rcases hi with rfl | hi
    · exact wp_tree t n listed a w hA.1 (hm _ (by simp [Forest.heads])) h.1
    · exact wp_many f n listed a w hA.2 (fun j hj => hm j (by simp [Forest.heads, hj])) h.2 i hi
end

/-- All that is asked of the numbers. -/
def treeB (ops : Array Oper) (pre : List Nat) (f : Forest) : Bool :=
  Region.noSelect ops && preB .any ops pre (Array.replicate ops.size false) && decide (pre.length ≤ ops.size) &&
  f.okAll .any ops (ops.size - pre.length) (listAll pre (Array.replicate ops.size false)) && f.okEnd .any ops (ops.size - pre.length) (listAll pre (Array.replicate ops.size false))

/-- The operations 'pre' copy slots; then all orders, as a tree. -/
theorem wp_region_tree {id : Nat} {a : Act} {w : World} {l : List Oper} (pre : List Nat) (f : Forest) (hm : P.follows .mixedOrders = true) (hB : treeB l.toArray pre f = true)
    (hQ : ∀ c (a : Act) w t, Q (.panic c) { a with tmps := t } w → Q (.panic c) a w)
    (h : endOf P l.toArray Q f (movesOf l.toArray pre a) (w.drewN 1)) : (Code.region id l.toArray true).wp P Q a w := by
  simp only [treeB, Bool.and_eq_true, decide_eq_true_eq] at hB
  obtain ⟨⟨⟨⟨hsel, hpre⟩, hlen⟩, hA⟩, hE⟩ := hB
  have R : wpAny P .any l.toArray Q (pre.length + (l.toArray.size - pre.length)) (Array.replicate l.toArray.size false) a { w with drawn := w.drawn + 1 } :=
    wpAny_of_pre hsel hQ pre _ _ hpre (wp_forest f _ _ _ _ hA hE h)
  rw [show pre.length + (l.toArray.size - pre.length) = l.toArray.size by omega] at R
  exact wp_region_any hm R

end
end Go.Gav
