/- The law on a range over a function that hands things out in an order of its own. No statement is proved here. -/
import Derived.Test.YtflcdbefakjcbaaRng2
namespace Go.Gav
open Go Go.RowKit

section
variable {P : Program} {α : Type}

/-- The function gf, called with yield and lb, hands out xs, one round an element, till a round says no more. What it keeps in memory lies in blocks of its own. -/
def IterU (P : Program) (gf : FuncId) (lb : Array Value) (encs : α → Array Value) (xs : List α) (w : World) (S : Nat → Prop) : Prop :=
  ∀ (l : Nat) (W : World), Only (fun _ => False) w W → ∀ R : World → Prop,
    (∀ W0, Only (fun _ => False) W W0 → ∃ (J : List α → World → Prop) (Jx : World → Prop), J [] W0 ∧
      (∀ i W1 W2, J i W1 → Only (Span W.heap.size W0.heap.size) W1 W2 → J i W2) ∧
      (∀ W1 W2, Jx W1 → Only (Span W.heap.size W0.heap.size) W1 W2 → Jx W2) ∧
      (∀ i x W1 W2, x ∈ xs ∧ x ∉ i → J i W1 → Only (Span W.heap.size W0.heap.size) W1 W2 → YieldAt Fence.wide 0 P l (encs x) W2 fun e W' =>
        (e = .returned (.bool true) ∧ KeptT (prot S W.heap.size W0.heap.size W1.heap.size W2.heap.size) W2 W' ∧ J (i ++ [x]) W') ∨ (e = .returned (.bool false) ∧ KeptT (prot S W.heap.size W0.heap.size W1.heap.size W2.heap.size) W2 W' ∧ Jx W')) ∧
      (∀ i W1, i.Perm xs → J i W1 → R W1) ∧ (∀ W1, Jx W1 → R W1)) →
    Calls P gf (#[.func (.yield l) #[] #[]] ++ lb) W fun e W' => (∃ v, e = .returned v) ∧ R W'

theorem IterU.only {gf : FuncId} {lb : Array Value} {encs : α → Array Value} {xs : List α} {w w' : World} {S : Nat → Prop} (h : IterU P gf lb encs xs w S) (ho : Only (fun _ => False) w w') : IterU P gf lb encs xs w' S :=
  fun l W hW => h l W (ho.trans hW (fun _ _ h => h))

/-- How the body of round i may be left. -/
def bodyEndU (T : Nat → Prop) (I : List α → World → Prop) (Ix : Code → World → Prop) (i : List α) (x : α) (W : World) : Exit → Act → World → Prop
  | .normal, _, W' => KeptT T W W' ∧ I (i ++ [x]) W'
  | .ret, _, W' => KeptT T W W' ∧ Ix .ret W'
  | .exit id, _, W' => KeptT T W W' ∧ Ix (.exit id) W'
  | .goto t, _, W' => KeptT T W W' ∧ Ix (.goto t) W'
  | .panic _, _, _ => False
  | .outgrown, _, _ => False

/-- The statement. W0: the world when the first round begins. -/
theorem wp_rangeU {g : Operand} {ps : Array Tmp} {assign body : Code} {Q : Exit → Act → World → Prop} {a : Act} {w : World}
    {gf : FuncId} {lb : Array Value} (hg : a.eval g = .func (.func gf) #[] lb) (eg : ∀ args w, (callFunc gf args).run P w = .ok (.enter gf args) w)
    {encs : α → Array Value} {xs : List α} {S : Nat → Prop} (hS : ∀ k, S k → k < w.heap.size) (hit : IterU P gf lb encs xs w S) (hps : ∀ x, (encs x).size = ps.size)
    (h : ∀ W0, Only (fun _ => False) w W0 → w.heap.size + 2 ≤ W0.heap.size → ∃ (I : List α → World → Prop) (Ix : Code → World → Prop), I [] W0 ∧
      (∀ i W1 W2, I i W1 → Only (Span w.heap.size W0.heap.size) W1 W2 → I i W2) ∧
      (∀ c W1 W2, Ix c W1 → Only (Span w.heap.size W0.heap.size) W1 W2 → Ix c W2) ∧
      (∀ l i x (hi : x ∈ xs ∧ x ∉ i) Wp W, I i Wp → Only (Span w.heap.size W0.heap.size) Wp W → assign.wpIn (Fence.wide.inRound l) 0 P
        (Exit.then (fun a₁ W1 => KeptT (prot S w.heap.size W0.heap.size Wp.heap.size W.heap.size) W W1 ∧ ∀ W2, Only (Span w.heap.size W0.heap.size) W1 W2 → body.wpIn (Fence.wide.inRound l) 0 P (bodyEndU (prot S w.heap.size W0.heap.size Wp.heap.size W.heap.size) I Ix i x W2) a₁ W2) (fun _ _ _ => False))
        { tmps := (ps.zip (encs x)).foldl (fun t (p, v) => t.setIfInBounds p v) a.tmps, defers := [] } W) ∧
      (∀ D W, w.heap.size ≤ D → D < W0.heap.size → (∃ i, i.Perm xs ∧ I i W) → W.heap[D]? = some (.deferred (some [])) → Q .normal { a with defers := { target := .collected D, args := #[] } :: a.defers } W) ∧
      (∀ c D W, w.heap.size ≤ D → D < W0.heap.size → Ix c W → W.heap[D]? = some (.deferred (some [])) → c.wp P Q { a with defers := { target := .collected D, args := #[] } :: a.defers } W)) :
    (Code.rangeFunc g ps assign body).wp P Q a w := by
  refine (wpIn_wide (n := 0)).1 ?_
  refine wpIn_rangeFunc ?_
  intro fn hfn
  obtain ⟨rec, hrec⟩ : ∃ rec : LoopState → Option Code → Loop, rec = fun st pe => { state := st, pending := pe, fn, tmps := a.tmps, params := ps, assign, body, defers := w.heap.size } := ⟨_, rfl⟩
  obtain ⟨W1, hW1⟩ : ∃ W1, (w.alloc (.deferred (some []))).alloc (.loop (rec .ready none)) = W1 := ⟨_, rfl⟩
  have hL1 : W1.heap[w.heap.size + 1]? = some (.loop (rec .ready none)) := by
    rw [← hW1]; have := World.alloc_heap_new (w.alloc (.deferred (some []))) (.loop (rec .ready none)); rwa [World.size_alloc] at this
  have hK1 : W1.heap[w.heap.size]? = some (.deferred (some [])) := by
    rw [← hW1]; exact (Below.heap_alloc _ _ _ (by simp)).trans (World.alloc_heap_new w _)
  have hs1 : W1.heap.size = w.heap.size + 2 := by rw [← hW1]; simp
  have ho1 : Only (fun _ => False) w W1 := by rw [← hW1]; exact ((Only.refl _ _).alloc _).alloc _
  refine ⟨w.heap.size + 1, [{ target := .collected w.heap.size, args := #[] }], W1, { target := .fn (.func gf) lb, args := #[.func (.yield (w.heap.size + 1)) #[] #[]] }, W1, gf,
    #[.func (.yield (w.heap.size + 1)) #[] #[]] ++ lb, W1, ?_, ?_, fun _ _ => trivial, ?_, fun h => by simp [Fence.wide] at h, ?_⟩
  · rw [← hW1, hrec]; exact run_enterLoop_outer _ _ _ _ _
  · simp only [resolve, hg]
    simp [go_sem]
  · simp [invoke, go_sem, eg]
  · refine callsIn_wide.2 ((hit (w.heap.size + 1) W1 ho1 (fun W3 => rangePost Fence.wide 0 P (w.heap.size + 1) Q { a with defers := [{ target := .collected w.heap.size, args := #[] }] ++ a.defers } (.returned undef) W3) ?_).mono ?_)
    · intro W0 hW0
      have hs0 : w.heap.size + 2 ≤ W0.heap.size := by have := hW0.size; omega
      obtain ⟨I, Ix, hI0, hIs, hIxs, hround, hdone, hstop⟩ := h W0 (ho1.trans hW0 (fun _ _ h => h)) hs0
      have hsp : ∀ k, Span W1.heap.size W0.heap.size k → Span w.heap.size W0.heap.size k := fun k hk => ⟨by have := hk.1; omega, hk.2⟩
      refine ⟨fun i W => I i W ∧ W.heap[w.heap.size + 1]? = some (.loop (rec .ready none)) ∧ W.heap[w.heap.size]? = some (.deferred (some [])),
        fun W => ∃ c, Ix c W ∧ W.heap[w.heap.size + 1]? = some (.loop (rec .done (some c))) ∧ W.heap[w.heap.size]? = some (.deferred (some [])), ?_, ?_, ?_, ?_, ?_, ?_⟩
      · exact ⟨hI0, hW0.keep hL1 id, hW0.keep hK1 id⟩
      · rintro i Wa Wb ⟨g1, g2, g3⟩ ho
        exact ⟨hIs i Wa Wb g1 (ho.mono hsp), ho.keep g2 (fun hh => by have := hh.1; omega), ho.keep g3 (fun hh => by have := hh.1; omega)⟩
      · rintro Wa Wb ⟨c, g1, g2, g3⟩ ho
        exact ⟨c, hIxs c Wa Wb g1 (ho.mono hsp), ho.keep g2 (fun hh => by have := hh.1; omega), ho.keep g3 (fun hh => by have := hh.1; omega)⟩
      · rintro i x Wp Wa hi ⟨g1, g2p, g3p⟩ hoP
        have g2 : Wa.heap[w.heap.size + 1]? = some (.loop (rec .ready none)) := hoP.keep g2p (fun hh => by have := hh.1; omega)
        have g3 : Wa.heap[w.heap.size]? = some (.deferred (some [])) := hoP.keep g3p (fun hh => by have := hh.1; omega)
        have hltp : w.heap.size + 1 < Wp.heap.size := (Array.getElem?_eq_some_iff.1 g2p).1
        have hy := run_yield (P := P) (args := encs x) g2 (by rw [hrec]; exact hps _)
        rw [hrec] at hy
        refine ⟨fn, _, assign, body, hy, roundIn_of_wpIn hfn (wpIn_mono (hround (w.heap.size + 1) i x hi Wp Wa g1 (hoP.mono hsp)) ?_)⟩
        clear hy
        intro e a₁ Wb hp
        cases e with
        | normal =>
          obtain ⟨hk, hb⟩ := hp
          have hl2 := (hk (w.heap.size + 1) (.inr (.inl ⟨by omega, by omega⟩))).trans g2
          have hd2 := (hk w.heap.size (.inr (.inl ⟨by omega, by omega⟩))).trans g3
          have hlt : w.heap.size + 1 < Wb.heap.size := (Array.getElem?_eq_some_iff.1 hl2).1
          refine ⟨_, run_beginRound hl2 (by rw [hrec]), ?_⟩
          have hl3 : (Wb.putObj (w.heap.size + 1) (.loop { rec .ready none with state := .busy })).heap[w.heap.size + 1]? = some (.loop { rec .ready none with state := .busy }) := World.putObj_heap_same hlt
          have hd3 : (Wb.putObj (w.heap.size + 1) (.loop { rec .ready none with state := .busy })).heap[w.heap.size]? = some (.deferred (some [])) := (World.putObj_heap_other (by omega)).trans hd2
          have ho3 : Only (Span w.heap.size W0.heap.size) Wb (Wb.putObj (w.heap.size + 1) (.loop { rec .ready none with state := .busy })) := only_putObj (Only.refl _ _) _ _ (.inl ⟨by omega, by omega⟩)
          refine wpIn_mono (hb _ ho3) ?_
          have fin : ∀ (jump : Option Code) (W4 : World), KeptT (prot S w.heap.size W0.heap.size Wp.heap.size Wa.heap.size) (Wb.putObj (w.heap.size + 1) (.loop { rec .ready none with state := .busy })) W4 →
              (Instr.endRound (w.heap.size + 1) jump).run P W4 = .ok (.bool jump.isNone) (W4.putObj (w.heap.size + 1) (.loop (rec (if jump.isNone then .ready else .done) jump))) ∧
              (W4.putObj (w.heap.size + 1) (.loop (rec (if jump.isNone then .ready else .done) jump))).heap[w.heap.size + 1]? = some (.loop (rec (if jump.isNone then .ready else .done) jump)) ∧
              (W4.putObj (w.heap.size + 1) (.loop (rec (if jump.isNone then .ready else .done) jump))).heap[w.heap.size]? = some (.deferred (some [])) ∧
              Only (Span w.heap.size W0.heap.size) W4 (W4.putObj (w.heap.size + 1) (.loop (rec (if jump.isNone then .ready else .done) jump))) ∧
              KeptT (prot S W1.heap.size W0.heap.size Wp.heap.size Wa.heap.size) Wa (W4.putObj (w.heap.size + 1) (.loop (rec (if jump.isNone then .ready else .done) jump))) := fun jump W4 hk4 => by
            have hl4 := (hk4 (w.heap.size + 1) (.inr (.inl ⟨by omega, by omega⟩))).trans hl3
            have hd4 := (hk4 w.heap.size (.inr (.inl ⟨by omega, by omega⟩))).trans hd3
            have := run_endRound (P := P) jump hl4
            rw [hrec] at this ⊢
            refine ⟨this, World.putObj_heap_same (Array.getElem?_eq_some_iff.1 hl4).1, (World.putObj_heap_other (by omega)).trans hd4, only_putObj (Only.refl _ _) _ _ (.inl ⟨by omega, by omega⟩), fun k hkk => ?_⟩
            have hne : k ≠ w.heap.size + 1 := by
              rcases hkk with hkk | hkk | hkk
              · have := hS k hkk; omega
              · omega
              · omega
            have hkk' : prot S w.heap.size W0.heap.size Wp.heap.size Wa.heap.size k := by
              rcases hkk with hkk | hkk | hkk
              · exact .inl hkk
              · exact .inr (.inl ⟨by omega, hkk.2⟩)
              · exact .inr (.inr hkk)
            rw [World.putObj_heap_other (fun e => hne e)]
            refine (hk4 k hkk').trans ?_
            rw [World.putObj_heap_other (fun e => hne e)]
            exact hk k hkk'
          intro e a3 W4 hp4
          cases e with
          | normal =>
            obtain ⟨hk4, hi4⟩ := hp4
            obtain ⟨r1, r2, r3, r4, r5⟩ := fin none W4 hk4
            exact ⟨_, _, r1, .inl ⟨rfl, r5, hIs _ _ _ hi4 r4, r2, r3⟩⟩
          | ret =>
            obtain ⟨hk4, hi4⟩ := hp4
            obtain ⟨r1, r2, r3, r4, r5⟩ := fin (some .ret) W4 hk4
            exact ⟨_, _, r1, .inr ⟨rfl, r5, .ret, hIxs _ _ _ hi4 r4, r2, r3⟩⟩
          | exit id =>
            obtain ⟨hk4, hi4⟩ := hp4
            obtain ⟨r1, r2, r3, r4, r5⟩ := fin (some (.exit id)) W4 hk4
            exact ⟨_, _, r1, .inr ⟨rfl, r5, .exit id, hIxs _ _ _ hi4 r4, r2, r3⟩⟩
          | goto t =>
            obtain ⟨hk4, hi4⟩ := hp4
            obtain ⟨r1, r2, r3, r4, r5⟩ := fin (some (.goto t)) W4 hk4
            exact ⟨_, _, r1, .inr ⟨rfl, r5, .goto t, hIxs _ _ _ hi4 r4, r2, r3⟩⟩
          | panic ch => exact hp4.elim
          | outgrown => exact hp4.elim
        | exit id => exact hp.elim
        | goto t => exact hp.elim
        | ret => exact hp.elim
        | panic ch => exact hp.elim
        | outgrown => exact hp.elim
      · rintro iz W2 hperm ⟨g1, g2, g3⟩
        refine ⟨none, _, by have := run_endLoop (P := P) g2 (by rw [hrec]; simp); rw [hrec] at this; exact this, ?_⟩
        exact hdone w.heap.size _ (Nat.le_refl _) (by omega) ⟨iz, hperm, hIs _ _ _ g1 (only_putObj (Only.refl _ _) _ _ (.inl ⟨by omega, by omega⟩))⟩ ((World.putObj_heap_other (by omega)).trans g3)
      · rintro W2 ⟨c, g1, g2, g3⟩
        refine ⟨some c, _, by have := run_endLoop (P := P) g2 (by rw [hrec]; simp); rw [hrec] at this; exact this, ?_⟩
        exact wpIn_wide.2 (hstop c w.heap.size _ (Nat.le_refl _) (by omega) (hIxs _ _ _ g1 (only_putObj (Only.refl _ _) _ _ (.inl ⟨by omega, by omega⟩))) ((World.putObj_heap_other (by omega)).trans g3))
    · rintro e W2 ⟨⟨v, rfl⟩, hR⟩
      exact hR

end
end Go.Gav
