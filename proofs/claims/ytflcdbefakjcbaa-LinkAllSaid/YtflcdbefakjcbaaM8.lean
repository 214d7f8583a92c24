/- Both nets between the calls of the law LinkAll. No statement is proved here. -/
import Derived.Test.YtflcdbefakjcbaaM7
import Derived.Test.YtflcdbefakjcbaaO6
namespace Go.Proofs.Ytflcdbefakjcbaa
open Go.RowKit Go.Gav Go.BigFrame

/-- What holds between rounds. -/
structure Two (w wr : World) (xb mb rg n room i : Nat) (S : Nat → Prop) (L : List It) : Prop where
  net : Net wr S xb n room (onL L)
  mn : MN wr mb rg n room L
  grid : InG n L
  len : L.length ≤ i
  ne : ∀ q, S q → q ≠ mb ∧ q ≠ rg
  lo : w.heap.size ≤ mb ∧ w.heap.size ≤ rg ∧ ∀ q, S q → w.heap.size ≤ q
  lt : rg < wr.heap.size
  only : Only (fun _ => False) w wr

variable {w wr w2 w3 : World} {xb yb mb rg rg' n room i : Nat} {S S' : Nat → Prop} {L L' : List It}

theorem Two.keep (h : Two w wr xb mb rg n room i S L) (ho : Only (fun _ => False) wr w2) : Two w w2 xb mb rg n room i S L :=
  ⟨h.net.only ho (fun _ _ => id), h.mn.only ho id id, h.grid, h.len, h.ne, h.lo, Nat.lt_of_lt_of_le h.lt ho.size, h.only.trans ho (fun _ _ h => h)⟩

theorem MN.ltr (h : MN w mb rg n room L) (h0 : 0 < L.length) : rg < w.heap.size := by
  obtain ⟨ao, cap, h1, h2, h3, h4⟩ := h
  have := flat3_get L 0 h0
  exact World.block_lt_of_cell? w _ (h4 _ _ this.1)
theorem MN.re (h : MN w mb rg n room []) (rg2 : Nat) : MN w mb rg2 n room [] :=
  let ⟨ao, cap, h1, h2, _, _⟩ := h
  ⟨ao, cap, h1, h2, fun h => by simp at h, fun j u hj => by simp [flat3] at hj⟩

/-- A turn of both nets. -/
theorem Two.turn (h : Two w wr xb mb rg n room i S L) (hN : Net w2 S' xb n room (onL L')) (hS : ∀ q, S' q → S q ∨ wr.heap.size ≤ q) (ho : Only S wr w2)
    (hM : MN w3 mb rg' n room L') (hr : rg' = rg ∨ w2.heap.size ≤ rg') (ho2 : Only (fun k => k = mb) w2 w3) (hg : InG n L') (hl : L'.length ≤ i + 1) : ∃ rg2, Two w w3 xb mb rg2 n room (i + 1) S' L' := by
  have hml := h.mn.lt
  have hrl := h.lt
  have hz := ho.size
  have hz2 := ho2.size
  have hw := h.only.size
  have hlo := h.lo
  have hx : ∃ rg2, MN w3 mb rg2 n room L' ∧ (rg2 = rg ∨ w2.heap.size ≤ rg2) ∧ rg2 < w3.heap.size := by
    rcases Nat.eq_zero_or_pos L'.length with h0 | h0
    · have : L' = [] := List.eq_nil_of_length_eq_zero h0
      subst this
      exact ⟨rg, hM.re rg, .inl rfl, by omega⟩
    · exact ⟨rg', hM, hr, hM.ltr h0⟩
  obtain ⟨rg2, hM, hr, hlt⟩ := hx
  have hs' : ∀ q, S' q → q ≠ mb ∧ q ≠ rg2 := fun q hq => by
    have h2 := hN.lt q hq
    rcases hS q hq with h1 | h1
    · have := h.ne q h1
      have := h.net.lt q h1
      rcases hr with h3 | h3 <;> omega
    · rcases hr with h3 | h3 <;> omega
  refine ⟨rg2, hN.only ho2 (fun q hq => (hs' q hq).1), hM, hg, hl, hs', ⟨hlo.1, by rcases hr with h3 | h3 <;> omega, fun q hq => ?_⟩, hlt, (h.only.trans ho (fun j hj hh => by have := hlo.2.2 j hh; omega)).trans ho2 (fun j hj hh => by omega)⟩
  rcases hS q hq with h1 | h1
  · exact hlo.2.2 q h1
  · omega
theorem Two.up (h : Two w wr xb mb rg n room i S L) : Two w wr xb mb rg n room (i + 1) S L := ⟨h.net, h.mn, h.grid, by have := h.len; omega, h.ne, h.lo, h.lt, h.only⟩

theorem selB_false : selB false = selA := rfl
theorem selB_true : selB true = selH := rfl

end Go.Proofs.Ytflcdbefakjcbaa
