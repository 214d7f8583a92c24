/- A law on append of a slice that may be nil. No statement is proved here. -/
import Derived.Test.YtofachfbphinaaaOpen
import Derived.Laws.AppendOwn
namespace Go.Gav
open Go Go.RowKit

section
variable {P : Program}

theorem run_append_none (w : World) (t ty e : TypeId) (i : TypeInfo) (ht : P.underlying t = some (.slice e)) (hi : P.info? e = some i) (b : Option Addr) (sLen sCap c : Nat) (hle : sLen ≤ sCap) :
    (Builtin.append_ #[t, t] ty #[.slice b sLen sCap, .slice none 0 c]).run P w = .ok (.slice b sLen sCap) w := by
  cases b <;> simp [Builtin.append_, run_underlying ht, sizeOf, typeInfo, hi, Builtin.lenOf, Builtin.firstCells, hle, storeCells, loadCells]

theorem wpList_append_any {ops : Array Oper} {rest : List Oper} {o : Oper} {a : Act} {w : World} {Q : Exit → Act → World → Prop} (hgd : o.guard = none) (s x : Operand) (t : TypeId)
    (ho : o.op = .call { callee := .builtin .append, args := #[s, x], argTypes := #[t, t] })
    (base : Nat) (e : TypeId) (i : TypeInfo) (z : Value) (size bytes : Nat) (ht : P.underlying t = some (.slice e)) (hi : P.info? e = some i) (hz : i.zero = some z)
    (hsize : i.size = size) (hby : i.bytes = bytes) (hzs : z.cells.size = size) (hsz : 0 < size)
    (v : Value) (n : Nat) (xs : List Value) (hs : a.eval s = v) (hown : w.ownsRow base e size v n xs)
    (ad : Option Addr) (m c : Nat) (news : List Value) (hx : a.eval x = .slice ad m c) (hl : news.length = m * size) (hnews : 0 < m → ∃ aa, ad = some aa ∧ ∀ j u, news[j]? = some u → w.cell? (aa.add j) = some u) (h1 : ∀ u ∈ news, u.oneCell' = true)
    (h63 : n + m ≤ maxLen) (hbytes : (n + m) * bytes ≤ 140737488355328) (hbase : base ≤ w.heap.size)
    (h : ∀ v' w', w'.ownsRow base e size v' (n + m) (xs ++ news) → w.grownBy w' v.ownBlock → wpList P ops Q rest (a.put o.dst v') w') : wpList P ops Q (o :: rest) a w := by
  cases ad with
  | some aa =>
    refine wpList_append_own w hgd s x t ho base e i z size bytes ht hi hz hsize hby hzs hsz v n xs hs hown aa m c news hx hl (fun j u hj => ?_) h1 h63 hbytes hbase (fun v' w' h2 h3 _ => h v' w' h2 h3)
    have hlt := (List.getElem?_eq_some_iff.1 hj).1
    obtain ⟨a2, e2, hc⟩ := hnews (by
      rcases Nat.eq_zero_or_pos m with h0 | h0
      · rw [hl, h0, Nat.zero_mul] at hlt; omega
      · exact h0)
    cases e2
    exact hc j u hj
  | none =>
    have hm : m = 0 := by
      rcases Nat.eq_zero_or_pos m with h0 | h0
      · exact h0
      · obtain ⟨_, h2, _⟩ := hnews h0
        cases h2
    subst hm
    have hn : news = [] := List.eq_nil_of_length_eq_zero (by rw [hl, Nat.zero_mul])
    subst hn
    have hr : ∃ b sL sC, v = .slice b sL sC ∧ sL ≤ sC := by
      rcases hown.2 with ⟨rfl, _⟩ | ⟨g, cap, cur, rfl, _, _, hnc, _⟩
      · exact ⟨_, _, _, rfl, Nat.le_refl _⟩
      · exact ⟨_, _, _, rfl, hnc⟩
    obtain ⟨b, sL, sC, rfl, hle⟩ := hr
    refine wpList_plain hgd fun K hK => ?_
    have hr := run_append_none (P := P) w t o.type e i ht hi b sL sC c hle
    unfold Oper.wp execOp
    simp only [ho, resolve, invoke, builtin, Sem.run_bind, Sem.run_pure, Result.andThen_ok, List.map_toArray, List.map_cons, List.map_nil, hs, hx, hr]
    exact hK _ _ (h _ _ (by simpa using hown) ⟨rfl, rfl, rfl, Nat.le_refl _, fun _ _ _ => rfl⟩)

end
end Go.Gav
