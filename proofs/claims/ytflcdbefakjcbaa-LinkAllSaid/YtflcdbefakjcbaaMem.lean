/- Laws on append and make in their exact form. No statement is proved here. -/
import Derived.Test.YtflcdbefakjcbaaBase
import Derived.Laws.MakeOwn
namespace Go.Gav
open Go.RowKit

section
variable {P : Program}

theorem run_append_one (w : World) (t ty e : TypeId) (i : TypeInfo) (ht : P.underlying t = some (.slice e)) (hi : P.info? e = some i) (hs : i.size = 1)
    (g k cap : Nat) (cs : Array Value) (hg : w.heap[g]? = some (.cells cs e (0, 0))) (hk : k + 1 ≤ cap) (hcs : k < cs.size) (a : Addr) (c : Nat) (v : Value) (ha : w.cell? a = some v) (h1 : v.oneCell' = true) :
    (Builtin.append_ #[t, t] ty #[.slice (some ⟨g, 0, none⟩) k cap, .slice (some a) 1 c]).run P w =
      .ok (.slice (some ⟨g, 0, none⟩) (k + 1) cap) (w.setRow g (cs.setIfInBounds k v)) := by
  have := run_append_room (P := P) w t ty e i ht hi g k cap cs hg a 1 c [v] (by simp [hs]) (fun j u hu => by
    match j, hu with
    | 0, hu => simp at hu; subst hu; simpa [Addr.add] using ha) (by simpa using h1) hk (by simp [hs]; omega)
  rw [this]
  congr 2
  apply Array.toList_inj.1
  rw [Array.toList_setIfInBounds, List.set_eq_take_append_cons_drop, if_pos (by simpa using hcs)]
  simp [hs]

theorem wpList_append_one {ops : Array Oper} {rest : List Oper} {o : Oper} {a : Act} {w : World} {Q : Exit → Act → World → Prop} (hgd : o.guard = none) (s x : Operand) (t : TypeId)
    (ho : o.op = .call { callee := .builtin .append, args := #[s, x], argTypes := #[t, t] })
    (e : TypeId) (i : TypeInfo) (ht : P.underlying t = some (.slice e)) (hi : P.info? e = some i) (hs : i.size = 1)
    (g k cap : Nat) (cs : Array Value) (hsv : a.eval s = .slice (some ⟨g, 0, none⟩) k cap) (hg : w.heap[g]? = some (.cells cs e (0, 0))) (hk : k + 1 ≤ cap) (hcs : k < cs.size)
    (ad : Addr) (c : Nat) (v : Value) (hx : a.eval x = .slice (some ad) 1 c) (ha : w.cell? ad = some v) (h1 : v.oneCell' = true)
    (h : wpList P ops Q rest (a.put o.dst (.slice (some ⟨g, 0, none⟩) (k + 1) cap)) (w.setRow g (cs.setIfInBounds k v))) : wpList P ops Q (o :: rest) a w :=
  wpList_plain hgd fun K hK => by
    have hr := run_append_one (P := P) w t o.type e i ht hi hs g k cap cs hg hk hcs ad c v ha h1
    unfold Oper.wp execOp
    simp only [ho, resolve, invoke, builtin, Sem.run_bind, Sem.run_pure, Result.andThen_ok, List.map_toArray, List.map_cons, List.map_nil, hsv, hx, hr]
    exact hK _ _ h

theorem run_make_ints (t e : TypeId) (i : TypeInfo) (ht : P.underlying t = some (.slice e)) (hi : P.info? e = some i) (hz : i.zero = some (.int .i64 0)) (hs : i.size = 1) (hb : i.bytes = 8)
    (c : Nat) (hc : c ≤ 16777216) (w : World) :
    (Instr.makeSlice t (.int .i64 0) (.int .i64 c)).run P w = .ok (.slice (some ⟨w.heap.size, 0, none⟩) 0 c) (w.alloc (.cells (ints (List.replicate c 0)) e)) := by
  have := run_make (P := P) (w := w) t e i (.int .i64 0) ht hi hz .i64 .i64 0 c (Int.le_refl _) (by omega) (by rw [hb]; omega) (by omega)
  rw [this]
  simp only [Int.toNat_zero, Int.toNat_natCast, hs, Nat.mul_one]
  congr 2
  have h2 : madeCells (Value.int IntKind.i64 0).cells c = ints (List.replicate c 0) := by
    apply Array.toList_inj.1
    have := toList_madeCells_one (.int .i64 0) c
    simpa [ints, Value.cells] using this
  rw [h2]

end

theorem fill_set (xs : List Int) (k cap : Nat) (hk : k < xs.length) (hc : xs.length ≤ cap) :
    (xs.take k ++ List.replicate (cap - k) 0).set k xs[k] = xs.take (k + 1) ++ List.replicate (cap - (k + 1)) 0 := by
  rw [List.set_append_right _ _ (by simp; omega), List.take_succ_eq_append_getElem hk, List.append_assoc]
  congr 1
  have : cap - k = (cap - (k + 1)) + 1 := by omega
  rw [this, List.replicate_succ]
  simp [Nat.min_eq_left (Nat.le_of_lt hk)]

theorem only_setRow {S : Nat → Prop} {a w : World} (h : Only S a w) (g : Nat) (cs : Array Value) (hp : S g ∨ a.heap.size ≤ g) : Only S a (w.setRow g cs) :=
  ⟨h.os, h.tape, h.output, by have := h.size; simp [World.setRow]; omega, fun k hk hn => (setRow_other w g k cs (fun e => by
    subst e
    rcases hp with hp | hp
    · exact hn hp
    · omega)).trans (h.block k hk hn)⟩
end Go.Gav
