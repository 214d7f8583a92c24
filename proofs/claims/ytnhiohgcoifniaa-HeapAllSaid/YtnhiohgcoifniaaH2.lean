/- The heap in memory; the contracts of less and swap. -/
import Derived.Test.YtnhiohgcoifniaaH1
import Derived.Test.YtnhiohgcoifniaaRow
import Derived.Test.YtnhiohgcoifniaaMp
namespace Go.Proofs.Ytnhiohgcoifniaa
open Go.RowKit Go.Gav Go.BigFrame

/-- The numbers of Go's int. -/
def I64 (k : Int) : Prop := (Lit.int .i64 k).wf = true

theorem keyed : Go.Maps.Keyed Try.prog 3 := Go.Maps.int_keyed Try.underlying3

/-- The index: each entry's place, by its key. -/
structure Idx (D : DataW Unit) (L : List En) : Prop where
  size : Go.Maps.size D = L.length
  at_ : ∀ i, i < L.length → ∀ z, D.atKey (.int .i64 (atE L i).1) z = .lit (.int .i64 i)
  has : ∀ i, i < L.length → Go.Maps.has D (.int .i64 (atE L i).1) = true
  only : ∀ k, Go.Maps.has D (.int .i64 k) = true → ∃ i, i < L.length ∧ (atE L i).1 = k
  range : ∀ i, i < L.length → I64 (atE L i).1

/-- A heap at block hb, its row at block lb, its index at block mb. -/
structure HAt (w : World) (hb lb mb : Nat) (L : List En) (D : DataW Unit) (v : Value) : Prop where
  head : w.heap[hb]? = some (.cells #[.func (.func 10) #[] #[], v, .map (some mb)] 63 (0, 0))
  row : RowE w 40 lb v L
  map : w.ownsMap Try.prog 3 (plainElem Try.prog 3) mb L.length D
  idx : Idx D L
  far : hb ≠ mb ∧ (v.ownBlock = some lb → lb ≠ hb ∧ lb ≠ mb) ∧ lb < w.heap.size
  small : L.length ≤ 1000

theorem HAt.only {S : Nat → Prop} {w w' : World} {hb lb mb : Nat} {L : List En} {D : DataW Unit} {v : Value} (h : HAt w hb lb mb L D v) (ho : Only S w w') (h1 : ¬ S hb) (h2 : ¬ S lb) (h3 : ¬ S mb) : HAt w' hb lb mb L D v := by
  refine ⟨ho.keep h.head h1, h.row.only ho (fun _ => h2), ?_, h.idx, ⟨h.far.1, h.far.2.1, Nat.lt_of_lt_of_le h.far.2.2 ho.size⟩, h.small⟩
  obtain ⟨es, clock, hb, r⟩ := h.map
  exact ⟨es, clock, ho.keep hb h3, r⟩

theorem three_cells {w : World} {g : Nat} {a b c : Value} {t : TypeId} (h : w.heap[g]? = some (.cells #[a, b, c] t (0, 0))) : w.cell? ⟨g, 0, none⟩ = some a ∧ w.cell? ⟨g, 1, none⟩ = some b ∧ w.cell? ⟨g, 2, none⟩ = some c :=
  ⟨by rw [cell_of_row w _ _ _ _ _ h]; rfl, by rw [cell_of_row w _ _ _ _ _ h]; rfl, by rw [cell_of_row w _ _ _ _ _ h]; rfl⟩

theorem order_is (x1 x2 y1 y2 r : Int) (hr : ordE (x1, x2) (y1, y2) = r) (w : World) :
    Calls Try.prog 10 #[.agg #[.int .i64 x1, .int .i64 x2], .agg #[.int .i64 y1, .int .i64 y2]] w fun e w' => e = .returned (.int .i64 r) ∧ Only (fun _ => False) w w' := by
  subst hr; exact order_at (x1, x2) (y1, y2) w

theorem ordE_neg (x y : En) : decide (ordE x y < 0) = decide (lessE x y) := by
  unfold ordE
  by_cases h : lessE x y
  · simp [h]
  · by_cases k : lessE y x <;> simp [h, k]

set_option maxRecDepth 100000 in
set_option maxHeartbeats 1000000 in
theorem h_less (hb lb mb : Nat) (L : List En) (D : DataW Unit) (v : Value) (w : World) (h : HAt w hb lb mb L D v) (i k : Nat) (hi : i < L.length) (hk : k < L.length) :
    Calls Try.prog 37 #[.pointer (some ⟨hb, 0, none⟩), .int .i64 i, .int .i64 k] w fun e w' => e = .returned (.bool (decide (lessE (atE L i) (atE L k)))) ∧ Only (fun _ => False) w w' := by
  obtain ⟨c0, c1, c2⟩ := three_cells h.head
  obtain ⟨cap, rfl, hcap, hm, -, -, hc⟩ := h.row.some (by omega)
  obtain ⟨d0, d1⟩ := hc i hi
  obtain ⟨e0, e1⟩ := hc k hk
  obtain ⟨n, hn⟩ : ∃ n, n = L.length := ⟨_, rfl⟩
  rw [← hn] at c1 hi hk
  obtain ⟨r, hr⟩ : ∃ r, ordE (atE L i) (atE L k) = r := ⟨_, rfl⟩
  have hrd := ordE_neg (atE L i) (atE L k)
  rw [hr] at hrd
  rw [← hrd]
  obtain ⟨⟨x1, x2⟩, hx⟩ : ∃ x, x = atE L i := ⟨_, rfl⟩
  obtain ⟨⟨y1, y2⟩, hy⟩ : ∃ y, y = atE L k := ⟨_, rfl⟩
  rw [← hx] at d0 d1 hr
  rw [← hy] at e0 e1 hr
  simp only at d0 d1 e0 e1
  have hsm : n ≤ 1000 := by rw [hn]; exact h.small
  clear hc hn h hx hy c2 hrd hcap hm
  go_enter Try.func37, Try.ntmps37
  go_wp2
  refine wp_region_mixed [0, 4, 8, 11, 15] [1, 2, 3, 5, 6, 7, 9, 10, 12, 13, 14, 16, 17] 18 [19, 20] (by kernel_rfl) (by kernel_rfl) (fun _ _ _ _ h => h) ?_
  simp only [pick, consO, List.getElem?_toArray, List.getElem?_cons_succ, List.getElem?_cons_zero, movesOf, moveOf]
  conv => arg 6; simp [Act.put, Act.eval]
  repeat (go_big_quiet_step (fail))
  refine wpQuiet_nil ?_
  rintro _ ⟨nq, rfl⟩
  go_wp2_with (fail)
  refine (order_is x1 x2 y1 y2 r hr _).mono ?_
  rintro e w2 ⟨rfl, o2⟩
  go_wp2_with (fail)
  go_ret
  exact ⟨rfl, ((Only.refl _ _).drewN nq).trans o2 (fun _ _ h => h)⟩

end Go.Proofs.Ytnhiohgcoifniaa
