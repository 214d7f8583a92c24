/- Nets of links in memory. No statement is proved here. -/
import Derived.Test.YtflcdbefakjcbaaN6
import Derived.Test.YtflcdbefakjcbaaA3
namespace Go.Proofs.Ytflcdbefakjcbaa
open Go.RowKit Go.Gav Go.BigFrame

/-- What a net holds on each link. -/
abbrev Cont := En → List Int
def upd (f : Cont) (x : En) (l : List Int) : Cont := fun y => if y = x then l else f y
def boxCells (n room mb : Nat) : Array Value := #[.int .i64 n, .int .i64 room, .map (some mb)]

/-- The net's parts: the map, the queues' rings, and whose each block is. -/
structure NetAt (w : World) (S : Nat → Prop) (xb n room : Nat) (f : Cont) (mb : Nat) (ps : List (En × Nat)) (rb : En → Nat) (own : Nat → Option En) : Prop where
  box : w.heap[xb]? = some (.cells (boxCells n room mb) 86 (0, 0))
  map : PMap w mb ps
  q : ∀ p ∈ ps, QRep w p.2 (rb p.1) room (f p.1)
  off : ∀ x, (∀ p ∈ ps, p.1 ≠ x) → f x = []
  ownq : ∀ p ∈ ps, own p.2 = some p.1 ∧ own (rb p.1) = some p.1
  ownb : own xb = none ∧ own mb = none
  grid : ∀ p ∈ ps, (0 ≤ p.1.1 ∧ p.1.1 < n) ∧ (0 ≤ p.1.2 ∧ p.1.2 < n) ∧ p.1.1 ≠ p.1.2
  hn : 1 ≤ n ∧ n ≤ 8
  hroom : 1 ≤ room ∧ room ≤ 65536
  sb : S xb ∧ S mb ∧ ∀ p ∈ ps, S p.2 ∧ S (rb p.1)
  lt : ∀ k, S k → k < w.heap.size

/-- A net at block xb, that keeps to the blocks S. -/
def Net (w : World) (S : Nat → Prop) (xb n room : Nat) (f : Cont) : Prop := ∃ mb ps rb own, NetAt w S xb n room f mb ps rb own

variable {w w' : World} {S T : Nat → Prop} {xb n room mb : Nat} {f : Cont} {ps : List (En × Nat)} {rb : En → Nat} {own : Nat → Option En}

theorem NetAt.only (h : NetAt w S xb n room f mb ps rb own) (ho : Only T w w') (hT : ∀ k, S k → ¬ T k) : NetAt w' S xb n room f mb ps rb own :=
  ⟨ho.keep h.box (hT _ h.sb.1), h.map.only ho (hT _ h.sb.2.1), fun p hp => (h.q p hp).only ho (hT _ (h.sb.2.2 p hp).1) (hT _ (h.sb.2.2 p hp).2), h.off, h.ownq, h.ownb, h.grid, h.hn, h.hroom, h.sb, fun k hk => Nat.lt_of_lt_of_le (h.lt k hk) ho.size⟩
theorem Net.only (h : Net w S xb n room f) (ho : Only T w w') (hT : ∀ k, S k → ¬ T k) : Net w' S xb n room f :=
  let ⟨mb, ps, rb, own, hh⟩ := h
  ⟨mb, ps, rb, own, hh.only ho hT⟩
theorem Net.lt (h : Net w S xb n room f) : ∀ k, S k → k < w.heap.size := let ⟨_, _, _, _, hh⟩ := h; hh.lt

theorem NetAt.cells (h : NetAt w S xb n room f mb ps rb own) : w.cell? ⟨xb, 0, none⟩ = some (.int .i64 n) ∧ w.cell? ⟨xb, 1, none⟩ = some (.int .i64 room) ∧ w.cell? ⟨xb, 2, none⟩ = some (.map (some mb)) := by
  refine ⟨?_, ?_, ?_⟩ <;> (rw [cell_of_row w _ _ _ _ _ h.box]; rfl)

theorem NetAt.mem_or (_ : NetAt w S xb n room f mb ps rb own) (x : En) : (∃ q, (x, q) ∈ ps) ∨ (∀ p ∈ ps, p.1 ≠ x) := by
  by_cases hx : ∃ q, (x, q) ∈ ps
  · exact .inl hx
  · refine .inr fun p hp e => hx ⟨p.2, ?_⟩
    subst e
    exact hp

/-- One queue was changed. -/
theorem NetAt.upd (h : NetAt w S xb n room f mb ps rb own) {S' : Nat → Prop} {x : En} {q r' : Nat} {l : List Int} (hx : (x, q) ∈ ps) (ho : Only (fun k => k = q ∨ k = rb x) w w') (hq : QRep w' q r' room l)
    (hr : r' = rb x ∨ r' = q ∨ w.heap.size ≤ r') (hS : ∀ k, S k → S' k) (hS' : S' r') (hlt : ∀ k, S' k → k < w'.heap.size) :
    NetAt w' S' xb n room (upd f x l) mb ps (fun y => if y = x then r' else rb y) (fun k => if k = r' then some x else own k) := by
  have hqo := h.ownq _ hx
  have hown : own r' = some x ∨ w.heap.size ≤ r' := by
    rcases hr with rfl | rfl | hr
    · exact .inl hqo.2
    · exact .inl hqo.1
    · exact .inr hr
  have hne : ∀ k, k < w.heap.size → own k ≠ some x → k ≠ r' := fun k hk ho' e => by
    subst e
    rcases hown with h1 | h1
    · exact ho' h1
    · omega
  have hnk : ∀ k, own k ≠ some x → ¬ (k = q ∨ k = rb x) := fun k ho' hh => by
    rcases hh with rfl | rfl
    · exact ho' hqo.1
    · exact ho' hqo.2
  have hxo : own xb ≠ some x := by rw [h.ownb.1]; simp
  have hmo : own mb ≠ some x := by rw [h.ownb.2]; simp
  have hnd : ∀ p ∈ ps, p.1 = x → p.2 = q := fun p hp e => by
    subst e
    exact nd_val h.map.nd hp hx
  refine ⟨ho.keep h.box (hnk _ hxo), h.map.only ho (hnk _ hmo), fun p hp => ?_, fun y hy => ?_, fun p hp => ?_, ⟨?_, ?_⟩, h.grid, h.hn, h.hroom, ⟨hS _ h.sb.1, hS _ h.sb.2.1, fun p hp => ⟨hS _ (h.sb.2.2 p hp).1, ?_⟩⟩, hlt⟩
  · by_cases e : p.1 = x
    · have := hnd p hp e
      simp only [e, if_true, Ytflcdbefakjcbaa.upd]
      rw [this]; exact hq
    · have h1 := h.ownq p hp
      simp only [e, if_false, Ytflcdbefakjcbaa.upd]
      refine (h.q p hp).only ho (hnk _ ?_) (hnk _ ?_)
      · rw [h1.1]; simpa using e
      · rw [h1.2]; simpa using e
  · have : y ≠ x := fun e => hy _ hx e.symm
    simp only [Ytflcdbefakjcbaa.upd, this, if_false]
    exact h.off y hy
  · have h1 := h.ownq p hp
    by_cases e : p.1 = x
    · have h2 := hnd p hp e
      refine ⟨?_, by simp [e]⟩
      by_cases e2 : p.2 = r'
      · simp [e2, e]
      · simp [e2, h1.1]
    · have hq1 := (h.q p hp).lt
      have a1 := hne _ hq1.1 (by rw [h1.1]; simpa using e)
      have a2 := hne _ hq1.2 (by rw [h1.2]; simpa using e)
      simp [e, a1, a2, h1.1, h1.2]
  · have := hne _ (h.lt _ h.sb.1) hxo
    simp [this, h.ownb.1]
  · have := hne _ (h.lt _ h.sb.2.1) hmo
    simp [this, h.ownb.2]
  · by_cases e : p.1 = x
    · simp [e, hS']
    · simp only [e, if_false]
      exact hS _ (h.sb.2.2 p hp).2

def headV (l : List Int) : Value := .tuple #[.int .i64 (l.headD 0), .bool (!l.isEmpty)]

theorem net_take (a b : Int) (w : World) (h : Net w S xb n room f) :
    Calls Try.prog 31 #[.pointer (some ⟨xb, 0, none⟩), .int .i64 a, .int .i64 b] w fun e w' => e = .returned (headV (f (a, b))) ∧ Net w' S xb n room (upd f (a, b) (f (a, b)).tail) ∧ Only S w w' := by
  obtain ⟨mb, ps, rb, own, hh⟩ := h
  obtain ⟨c0, c1, c2⟩ := hh.cells
  have HH := Lib.hid hh
  have hl := run_look hh.map (a, b)
  simp only [keyV] at hl
  rcases hh.mem_or (a, b) with ⟨q, hq⟩ | hq
  · rw [lookV_mem hh.map.nd hq] at hl
    simp only [ptrV] at hl
    have hqr := hh.q _ hq
    have HQ := Lib.hid hq
    clear hh hq
    obtain ⟨l, hl2⟩ : ∃ l, f (a, b) = l := ⟨_, rfl⟩
    rw [hl2] at hqr ⊢
    cases l with
    | nil =>
      have hp := q_pop_none q _ room w hqr
      go_enter Try.func31, Try.ntmps31
      go_wp2_with (first | (refine hp.mono ?_; rintro e w2 ⟨rfl, rfl⟩) | fail)
      go_ret2
      refine ⟨rfl, ⟨mb, ps, rb, own, ?_⟩, Only.refl _ _⟩
      have e : Ytflcdbefakjcbaa.upd f (a, b) ([] : List Int).tail = f := by
        funext y
        unfold Ytflcdbefakjcbaa.upd
        split
        · rename_i e; rw [e, hl2]; rfl
        · rfl
      rw [e]; exact HH.out
    | cons x xs =>
      have hp := q_pop q _ room x xs w hqr
      go_enter Try.func31, Try.ntmps31
      go_wp2_with (first | (refine hp.mono ?_; rintro e w2 ⟨rfl, hq2, o2⟩) | fail)
      go_ret2
      have hsb := HH.out.sb.2.2 _ HQ.out
      have o3 : Only S w w2 := o2.mono (fun k hk => by rcases hk with rfl | rfl; exact hsb.1; exact hsb.2)
      exact ⟨rfl, ⟨mb, ps, _, _, HH.out.upd HQ.out o2 hq2 (.inl rfl) (fun _ h => h) hsb.2 (fun k hk => Nat.lt_of_lt_of_le (HH.out.lt k hk) o2.size)⟩, o3⟩
  · rw [lookV_not hq] at hl
    have hl2 := hh.off _ hq
    clear hh hq
    rw [hl2]
    have hp := pop_nil w
    go_enter Try.func31, Try.ntmps31
    go_wp2_with (first | (refine hp.mono ?_; rintro e w2 ⟨rfl, rfl⟩) | fail)
    go_ret2
    refine ⟨rfl, ⟨mb, ps, rb, own, ?_⟩, Only.refl _ _⟩
    have e : Ytflcdbefakjcbaa.upd f (a, b) ([] : List Int).tail = f := by
      funext y
      unfold Ytflcdbefakjcbaa.upd
      split
      · rename_i e; rw [e, hl2]; rfl
      · rfl
    rw [e]; exact HH.out

end Go.Proofs.Ytflcdbefakjcbaa
