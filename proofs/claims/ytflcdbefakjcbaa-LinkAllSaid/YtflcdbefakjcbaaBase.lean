/- Plain lemmas on worlds: which blocks a step may have changed; and on the rings of a queue. No statement is proved here. -/
import Derived.WalkKit
import Derived.WalkSmall
namespace Go.Gav
open Go.RowKit

/-- From w to w' no block but those of S has changed, of those that there were; new ones may have come. -/
structure Only (S : Nat → Prop) (w w' : World) : Prop where
  os : w'.os = w.os
  tape : w'.tape = w.tape
  output : w'.output = w.output
  size : w.heap.size ≤ w'.heap.size
  block : ∀ k, k < w.heap.size → ¬ S k → w'.heap[k]? = w.heap[k]?

variable {S S' : Nat → Prop} {a b c w w' : World}

theorem Only.refl (S : Nat → Prop) (w : World) : Only S w w := ⟨rfl, rfl, rfl, Nat.le_refl _, fun _ _ _ => rfl⟩

theorem Only.trans (h : Only S a b) (k : Only S' b c) (hs : ∀ j, j < a.heap.size → S' j → S j) : Only S a c :=
  ⟨k.os.trans h.os, k.tape.trans h.tape, k.output.trans h.output, Nat.le_trans h.size k.size,
    fun j hj hn => (k.block j (Nat.lt_of_lt_of_le hj h.size) (fun x => hn (hs j hj x))).trans (h.block j hj hn)⟩

theorem Only.mono (h : Only S a b) (hs : ∀ j, S j → S' j) : Only S' a b :=
  ⟨h.os, h.tape, h.output, h.size, fun j hj hn => h.block j hj (fun x => hn (hs j x))⟩

theorem Only.drew (h : Only S a w) : Only S a w.drew := ⟨h.os, h.tape, h.output, h.size, h.block⟩

theorem Only.drewN (h : Only S a w) (n : Nat) : Only S a (w.drewN n) := ⟨h.os, h.tape, h.output, h.size, h.block⟩

theorem Only.alloc (h : Only S a w) (o : Obj) : Only S a (w.alloc o) :=
  ⟨h.os, h.tape, h.output, by have := h.size; simp; omega, fun k hk hn => (Below.heap_alloc _ _ _ (Nat.lt_of_lt_of_le hk h.size)).trans (h.block k hk hn)⟩

theorem Only.setCell (h : Only S a w) {p : Addr} (hp : S p.block ∨ a.heap.size ≤ p.block) (u : Value) : Only S a (w.setCell p u) :=
  ⟨h.os, h.tape, h.output, by have := h.size; simp; omega, fun k hk hn => (Below.heap_setCell _ _ _ _ (fun e => by
    subst e
    rcases hp with hp | hp
    · exact hn hp
    · omega)).trans (h.block k hk hn)⟩

theorem Only.setAt {g : Nat} (h : Only (fun k => k = g) a w) (j : Nat) (u : Value) : Only (fun k => k = g) a (w.setCell ⟨g, j, none⟩ u) :=
  h.setCell (p := ⟨g, j, none⟩) (.inl rfl) u

theorem Only.grown (h : Only S a w) {row : Option Nat} (hg : w.grownBy w' row) (hr : ∀ k, row = some k → S k ∨ a.heap.size ≤ k) : Only S a w' :=
  ⟨hg.os.trans h.os, hg.tape.trans h.tape, hg.output.trans h.output, Nat.le_trans h.size hg.size, fun k hk hn =>
    (hg.block k (Nat.lt_of_lt_of_le hk h.size) (fun e => by
      rcases hr k e.symm with x | x
      · exact hn x
      · omega)).trans (h.block k hk hn)⟩

theorem Only.below (h : Only S w w') {B : Nat} (hB : B ≤ w.heap.size) (hs : ∀ j, S j → B ≤ j) : Below B w w' :=
  ⟨h.os, h.tape, h.output, h.size, fun k hk => h.block k (Nat.lt_of_lt_of_le hk hB) (fun x => by have := hs k x; omega)⟩

theorem Only.of_below {B : Nat} (h : Below B w w') : Only (fun k => B ≤ k) w w' :=
  ⟨h.os, h.tape, h.output, h.size, fun k _ hn => h.block k (by omega)⟩

theorem Only.keep (h : Only S w w') {k : Nat} {o : Obj} (hb : w.heap[k]? = some o) (hn : ¬ S k) : w'.heap[k]? = some o :=
  (h.block k (lt_of_block hb) hn).trans hb

theorem Only.cell (h : Only S w w') {p : Addr} {v : Value} (hb : w.cell? p = some v) (hn : ¬ S p.block) : w'.cell? p = some v :=
  (World.cell?_of_block (h.block _ (World.block_lt_of_cell? w p hb) hn)).trans hb

/-! ### Blocks that are known whole -/
theorem free_of_row {g j : Nat} {cs : Array Value} {t : TypeId} (hg : w.heap[g]? = some (.cells cs t (0, 0))) : w.frozen? ⟨g, j, none⟩ = false := by
  simp [World.frozen?, hg]

theorem hp_same {g j : Nat} {cs : Array Value} {t : TypeId} {f : Nat × Nat} (hg : w.heap[g]? = some (.cells cs t f)) (v : Value) :
    (w.setCell ⟨g, j, none⟩ v).heap[g]? = some (.cells (cs.setIfInBounds j v) t f) := by
  simp only [World.setCell]
  rw [Array.getElem?_modify, if_pos rfl, hg]
  simp

theorem hp_other {g : Nat} {p : Addr} {o : Obj} (hg : w.heap[g]? = some o) (hp : g ≠ p.block) (v : Value) :
    (w.setCell p v).heap[g]? = some o := (Below.heap_setCell _ _ _ _ hp).trans hg

theorem hp_alloc {g : Nat} {o : Obj} (hg : w.heap[g]? = some o) (o' : Obj) : (w.alloc o').heap[g]? = some o :=
  (Below.heap_alloc _ _ _ (lt_of_block hg)).trans hg

theorem hp_drewN {g n : Nat} : (w.drewN n).heap[g]? = w.heap[g]? := rfl

/-- A row of ints, as an array of values. -/
def ints (zs : List Int) : Array Value := (zs.map (Value.int .i64)).toArray

theorem ints_size (zs : List Int) : (ints zs).size = zs.length := by simp [ints]
theorem ints_get {zs : List Int} {i : Nat} (h : i < zs.length) : (ints zs)[i]? = some (.int .i64 (zs.getD i 0)) := by
  simp [ints, h]
theorem ints_set (zs : List Int) (i : Nat) (x : Int) : (ints zs).setIfInBounds i (.int .i64 x) = ints (zs.set i x) := by
  apply Array.toList_inj.1
  simp [ints, List.map_set]

theorem cell_ints {g i : Nat} {zs : List Int} {t : TypeId} {f : Nat × Nat} (hg : w.heap[g]? = some (.cells (ints zs) t f)) (h : i < zs.length) :
    w.cell? ⟨g, i, none⟩ = some (.int .i64 (zs.getD i 0)) := by
  rw [cell_of_row w g i _ t f hg, ints_get h]

/-- The same memory and streams; draws may have been made. -/
structure SameMem (w w' : World) : Prop where
  heap : w'.heap = w.heap
  os : w'.os = w.os
  tape : w'.tape = w.tape
  output : w'.output = w.output

theorem SameMem.only (h : SameMem a b) (k : Only S w a) : Only S w b :=
  ⟨h.os.trans k.os, h.tape.trans k.tape, h.output.trans k.output, by rw [h.heap]; exact k.size, fun j hj hn => by rw [h.heap]; exact k.block j hj hn⟩

theorem take_ints (xs : List Int) (i : Nat) (h : i < xs.length) : (xs.take (i + 1)).map (Value.int .i64) = (xs.take i).map (Value.int .i64) ++ [.int .i64 (xs.getD i 0)] := by
  rw [List.take_succ_eq_append_getElem h, List.map_append, List.getD_eq_getElem?_getD, List.getElem?_eq_getElem h]
  rfl

/-! ### Rings -/
/-- The n items of a ring, from a place on. -/
def ringItems (zs : List Int) (fr n : Nat) : List Int := (List.range n).map fun i => zs.getD ((fr + i) % zs.length) 0

theorem ringItems_length (zs : List Int) (fr n : Nat) : (ringItems zs fr n).length = n := by simp [ringItems]

theorem ringItems_getD (zs : List Int) (fr n i : Nat) (h : i < n) : (ringItems zs fr n).getD i 0 = zs.getD ((fr + i) % zs.length) 0 := by
  simp [ringItems, h]

theorem ringItems_getElem? (zs : List Int) (fr n i : Nat) (h : i < n) : (ringItems zs fr n)[i]? = some (zs.getD ((fr + i) % zs.length) 0) := by
  simp [ringItems, h]

theorem mod_of (a L : Nat) (h : a < 2 * L) : a % L = if a < L then a else a - L := by
  split
  · exact Nat.mod_eq_of_lt ‹_›
  · rw [Nat.mod_eq_sub_mod (by omega), Nat.mod_eq_of_lt (by omega)]

theorem ringItems_push (zs : List Int) (fr n : Nat) (x : Int) (hf : fr < zs.length) (hn : n < zs.length) :
    ringItems (zs.set ((fr + n) % zs.length) x) fr (n + 1) = ringItems zs fr n ++ [x] := by
  apply List.ext_getElem?
  intro i
  have hlt : (fr + n) % zs.length < zs.length := Nat.mod_lt _ (by omega)
  by_cases hi : i < n
  · rw [ringItems_getElem? _ _ _ _ (by omega), List.getElem?_append_left (by rw [ringItems_length]; omega), ringItems_getElem? _ _ _ _ hi]
    have h1 := mod_of (fr + n) zs.length (by omega)
    have h2 := mod_of (fr + i) zs.length (by omega)
    simp only [List.length_set]
    rw [List.getD_eq_getElem?_getD, List.getElem?_set_ne (by rw [h1, h2]; split <;> split <;> omega), ← List.getD_eq_getElem?_getD]
  · by_cases he : i = n
    · subst he
      rw [ringItems_getElem? _ _ _ _ (by omega), List.getElem?_append_right (by rw [ringItems_length]; omega), ringItems_length]
      simp [List.length_set, List.getElem?_set_self hlt]
    · rw [List.getElem?_eq_none (by rw [ringItems_length]; omega), List.getElem?_eq_none (by simp [ringItems_length]; omega)]

theorem ringItems_pop (zs : List Int) (fr n : Nat) (hf : fr < zs.length) (hn : n + 1 ≤ zs.length) :
    ringItems zs fr (n + 1) = zs.getD fr 0 :: ringItems (zs.set fr 0) ((fr + 1) % zs.length) n := by
  apply List.ext_getElem?
  intro i
  match i with
  | 0 =>
    rw [ringItems_getElem? _ _ _ _ (by omega)]
    simp [Nat.mod_eq_of_lt hf]
  | i + 1 =>
    rw [List.getElem?_cons_succ]
    by_cases hi : i < n
    · rw [ringItems_getElem? _ _ _ _ (by omega), ringItems_getElem? _ _ _ _ hi]
      have e : ((fr + 1) % zs.length + i) % zs.length = (fr + (i + 1)) % zs.length := by
        rw [Nat.mod_add_mod]; congr 1; omega
      have h2 := mod_of (fr + (i + 1)) zs.length (by omega)
      simp only [List.length_set]
      rw [e, List.getD_eq_getElem?_getD, List.getD_eq_getElem?_getD, List.getElem?_set_ne (by rw [h2]; split <;> omega)]
    · rw [List.getElem?_eq_none (by rw [ringItems_length]; omega), List.getElem?_eq_none (by rw [ringItems_length]; omega)]

theorem ringItems_straight (xs : List Int) (L : Nat) (h : xs.length ≤ L) :
    ringItems (xs ++ List.replicate (L - xs.length) 0) 0 xs.length = xs := by
  apply List.ext_getElem?
  intro i
  have hL : (xs ++ List.replicate (L - xs.length) 0).length = L := by simp; omega
  by_cases hi : i < xs.length
  · rw [ringItems_getElem? _ _ _ _ hi, hL, Nat.zero_add, Nat.mod_eq_of_lt (by omega)]
    rw [List.getD_eq_getElem?_getD, List.getElem?_append_left hi, List.getElem?_eq_getElem hi]
    rfl
  · rw [List.getElem?_eq_none (by rw [ringItems_length]; omega), List.getElem?_eq_none (by omega)]

theorem ringItems_zero (zs : List Int) (fr : Nat) : ringItems zs fr 0 = [] := rfl

end Go.Gav
