/- The document's net in memory; its Send. -/
import Derived.Test.YtflcdbefakjcbaaO7
import Derived.Test.YtflcdbefakjcbaaM1
import Derived.Laws.AppendOwn
namespace Go.Gav
open Go Go.RowKit

section
variable {P : Program}

theorem run_append_none (w : World) (t ty e : TypeId) (i : TypeInfo) (ht : P.underlying t = some (.slice e)) (hi : P.info? e = some i) (b : Option Addr) (sLen sCap c : Nat) (hle : sLen ≤ sCap) :
    (Builtin.append_ #[t, t] ty #[.slice b sLen sCap, .slice none 0 c]).run P w = .ok (.slice b sLen sCap) w := by
  cases b <;> simp [Builtin.append_, run_underlying ht, sizeOf, typeInfo, hi, Builtin.lenOf, Builtin.firstCells, hle, storeCells, loadCells]

theorem wpList_append_any {ops : Array Oper} {rest : List Oper} {o : Oper} {a : Act} {w : World} {Q : Exit → Act → World → Prop} (hgd : o.guard = none) (s x : Operand) (t : TypeId)
    (ho : o.op = .call { callee := .builtin .append, args := #[s, x], argTypes := #[t, t] })
    (base : Nat) (e : TypeId) (i : TypeInfo) (z : Value) (size bytes : Nat) (ht : P.underlying t = some (.slice e)) (hi : P.info? e = some i) (hz : i.zero = some z)
    (hsize : i.size = size) (hby : i.bytes = bytes) (hzs : z.cells.size = size) (hsz : 0 < size)
    (v : Value) (n : Nat) (xs : List Value) (hs : a.eval s = v) (hown : w.ownsRow base e size v n xs)
    (ad : Option Addr) (m c : Nat) (news : List Value) (hx : a.eval x = .slice ad m c) (hl : news.length = m * size) (hnews : 0 < m → ∃ aa, ad = some aa ∧ ∀ j u, news[j]? = some u → w.cell? (aa.add j) = some u) (h1 : ∀ u ∈ news, u.oneCell' = true)
    (h63 : n + m ≤ maxLen) (hbytes : (n + m) * bytes ≤ 140737488355328) (hbase : base ≤ w.heap.size)
    (h : ∀ v' w', w'.ownsRow base e size v' (n + m) (xs ++ news) → w.grownBy w' v.ownBlock → wpList P ops Q rest (a.put o.dst v') w') : wpList P ops Q (o :: rest) a w := by
  cases ad with
  | some aa =>
    refine wpList_append_own w hgd s x t ho base e i z size bytes ht hi hz hsize hby hzs hsz v n xs hs hown aa m c news hx hl (fun j u hj => ?_) h1 h63 hbytes hbase (fun v' w' h2 h3 _ => h v' w' h2 h3)
    have hlt := (List.getElem?_eq_some_iff.1 hj).1
    obtain ⟨a2, e2, hc⟩ := hnews (by
      rcases Nat.eq_zero_or_pos m with h0 | h0
      · rw [hl, h0, Nat.zero_mul] at hlt; omega
      · exact h0)
    cases e2
    exact hc j u hj
  | none =>
    have hm : m = 0 := by
      rcases Nat.eq_zero_or_pos m with h0 | h0
      · exact h0
      · obtain ⟨_, h2, _⟩ := hnews h0
        cases h2
    subst hm
    have hn : news = [] := List.eq_nil_of_length_eq_zero (by rw [hl, Nat.zero_mul])
    subst hn
    have hr : ∃ b sL sC, v = .slice b sL sC ∧ sL ≤ sC := by
      rcases hown.2 with ⟨rfl, _⟩ | ⟨g, cap, cur, rfl, _, _, hnc, _⟩
      · exact ⟨_, _, _, rfl, Nat.le_refl _⟩
      · exact ⟨_, _, _, rfl, hnc⟩
    obtain ⟨b, sL, sC, rfl, hle⟩ := hr
    refine wpList_plain hgd fun K hK => ?_
    have hr := run_append_none (P := P) w t o.type e i ht hi b sL sC c hle
    unfold Oper.wp execOp
    simp only [ho, resolve, invoke, builtin, Sem.run_bind, Sem.run_pure, Result.andThen_ok, List.map_toArray, List.map_cons, List.map_nil, hs, hx, hr]
    exact hK _ _ (h _ _ (by simpa using hown) ⟨rfl, rfl, rfl, Nat.le_refl _, fun _ _ _ => rfl⟩)

end
end Go.Gav

namespace Go.Proofs.Ytflcdbefakjcbaa
open Go.RowKit Go.Gav Go.BigFrame

/-- What was sent: a link and an item. -/
abbrev It := En × Int
def flat3 : List It → List Value
  | [] => []
  | e :: l => .int .i64 e.1.1 :: .int .i64 e.1.2 :: .int .i64 e.2 :: flat3 l
theorem flat3_length : ∀ l, (flat3 l).length = l.length * 3
  | [] => rfl
  | e :: l => by simp [flat3, flat3_length l]; omega
theorem flat3_append : ∀ a b, flat3 (a ++ b) = flat3 a ++ flat3 b
  | [], b => rfl
  | e :: a, b => by simp [flat3, flat3_append a b]
theorem flat3_one : ∀ (l : List It), ∀ u ∈ flat3 l, u.oneCell' = true
  | [], u, h => by cases h
  | e :: l, u, h => by
    simp only [flat3, List.mem_cons] at h
    rcases h with rfl | rfl | rfl | h
    · rfl
    · rfl
    · rfl
    · exact flat3_one l u h
theorem flat3_get : ∀ (l : List It) (i : Nat) (h : i < l.length), (flat3 l)[i * 3]? = some (.int .i64 l[i].1.1) ∧ (flat3 l)[i * 3 + 1]? = some (.int .i64 l[i].1.2) ∧ (flat3 l)[i * 3 + 2]? = some (.int .i64 l[i].2)
  | [], i, h => by simp at h
  | e :: l, 0, _ => by simp [flat3]
  | e :: l, i + 1, h => by
    have := flat3_get l i (by simpa using h)
    rw [show (i + 1) * 3 = i * 3 + 1 + 1 + 1 by omega]
    simpa [flat3] using this
theorem flat3_drop : ∀ (l : List It) (m j : Nat), (flat3 (l.drop m))[j]? = (flat3 l)[m * 3 + j]?
  | [], m, j => by simp [flat3]
  | e :: l, 0, j => by simp
  | e :: l, m + 1, j => by
    rw [show (m + 1) * 3 + j = (m * 3 + j) + 1 + 1 + 1 by omega]
    simpa [flat3] using flat3_drop l m j
theorem flat3_take : ∀ (l : List It) (m : Nat), flat3 (l.take m) = (flat3 l).take (m * 3)
  | [], m => by simp [flat3]
  | e :: l, 0 => by simp [flat3]
  | e :: l, m + 1 => by
    rw [show (m + 1) * 3 = m * 3 + 1 + 1 + 1 by omega]
    simp [flat3, flat3_take l m]

/-- The document's net at block mb: its items lie in block rg. -/
def MN (w : World) (mb rg n room : Nat) (L : List It) : Prop :=
  ∃ ao cap, w.heap[mb]? = some (.cells #[.int .i64 n, .int .i64 room, .slice ao L.length cap] 73 (0, 0)) ∧ L.length ≤ cap ∧ (0 < L.length → ao = some ⟨rg, 0, none⟩) ∧ ∀ j u, (flat3 L)[j]? = some u → w.cell? ⟨rg, j, none⟩ = some u

theorem MN.only {S : Nat → Prop} {w w' : World} {mb rg n room : Nat} {L : List It} (h : MN w mb rg n room L) (ho : Only S w w') (hb : ¬ S mb) (hr : ¬ S rg) : MN w' mb rg n room L :=
  let ⟨ao, cap, h1, h2, h3, h4⟩ := h
  ⟨ao, cap, ho.keep h1 hb, h2, h3, fun j u hj => ho.cell (h4 j u hj) hr⟩
theorem MN.lt {w : World} {mb rg n room : Nat} {L : List It} (h : MN w mb rg n room L) : mb < w.heap.size := let ⟨_, _, h1, _⟩ := h; lt_of_block h1

/-- The items on a link. -/
def onL (L : List It) (x : En) : List Int := (L.filter fun y => decide (y.1 = x)).map (·.2)
theorem onL_snoc_eq (L : List It) (x : En) (v : Int) : onL (L ++ [(x, v)]) x = onL L x ++ [v] := by simp [onL]
theorem onL_snoc_ne (L : List It) (x y : En) (v : Int) (h : y ≠ x) : onL (L ++ [(y, v)]) x = onL L x := by simp [onL, h]
theorem onL_len (L : List It) (x : En) : (onL L x).length ≤ L.length := by
  unfold onL; rw [List.length_map]; exact List.length_filter_le _ _

theorem info78 : (Try.prog.info? 78).map (fun i => (i.zero, i.size, i.bytes)) = some (some (.agg #[.int .i64 0, .int .i64 0, .int .i64 0]), 3, 24) := by kernel_rfl

theorem row3 {w : World} {B n : Nat} {v : Value} {L : List It} (h : w.ownsRow B 78 3 v n (flat3 L)) : n = L.length ∧ ∃ ao cap, v = .slice ao L.length cap ∧ L.length ≤ cap ∧ ∃ rg, (0 < L.length → ao = some ⟨rg, 0, none⟩ ∧ B ≤ rg ∧ rg < w.heap.size) ∧ ∀ j u, (flat3 L)[j]? = some u → w.cell? ⟨rg, j, none⟩ = some u := by
  have hl := h.1
  rw [flat3_length] at hl
  obtain rfl : n = L.length := by omega
  refine ⟨rfl, ?_⟩
  rcases h.2 with ⟨rfl, h0⟩ | ⟨g, cap, cur, rfl, hb, h1, h2, h3, h4, h5⟩
  · refine ⟨none, 0, by rw [h0], by omega, 0, fun h => by omega, fun j u hj => ?_⟩
    have : L = [] := List.eq_nil_of_length_eq_zero h0
    subst this
    simp [flat3] at hj
  · refine ⟨_, cap, rfl, h2, g, fun _ => ⟨rfl, hb, lt_of_block h1⟩, fun j u hj => ?_⟩
    have hjl : j < L.length * 3 := by rw [← flat3_length]; exact (List.getElem?_eq_some_iff.1 hj).1
    rw [cell_of_row w g j _ _ _ h1]
    rw [← h5, List.getElem?_take_of_lt hjl, Array.getElem?_toList] at hj
    exact hj

theorem mem_cells {w : World} {rg : Nat} {L : List It} (h : ∀ j u, (flat3 L)[j]? = some u → w.cell? ⟨rg, j, none⟩ = some u) (i : Nat) (hi : i < L.length) :
    w.cell? ⟨rg, i * 3, none⟩ = some (.int .i64 L[i].1.1) ∧ w.cell? ⟨rg, i * 3 + 1, none⟩ = some (.int .i64 L[i].1.2) ∧ w.cell? ⟨rg, i * 3 + 2, none⟩ = some (.int .i64 L[i].2) := by
  have := flat3_get L i hi
  exact ⟨h _ _ this.1, h _ _ this.2.1, h _ _ this.2.2⟩

theorem new_three (w : World) (a b c : Value) (t : TypeId) : ∀ j u, [a, b, c][j]? = some u → (w.alloc (.cells #[a, b, c] t)).cell? ((⟨w.heap.size, 0, none⟩ : Addr).add j) = some u := by
  intro j u hj
  have hk := heap_alloc_new w (.cells #[a, b, c] t)
  match j, hj with
  | 0, hj => simp at hj; subst hj; rw [addr0, cell_of_row _ _ _ _ _ _ hk]; rfl
  | 1, hj => simp at hj; subst hj; rw [addr0, cell_of_row _ _ _ _ _ _ hk]; rfl
  | 2, hj => simp at hj; subst hj; rw [addr0, cell_of_row _ _ _ _ _ _ hk]; rfl
  | j + 3, hj => simp at hj

set_option maxRecDepth 100000 in
theorem dsend_bad (a b v : Int) (mb rg n room : Nat) (L : List It) (w : World) (h : MN w mb rg n room L) (hbad : a < 0 ∨ n ≤ a ∨ b < 0 ∨ n ≤ b ∨ a = b) :
    Calls Try.prog 33 #[.pointer (some ⟨mb, 0, none⟩), .int .i64 a, .int .i64 b, .int .i64 v] w fun e w' => e = .returned (.int .i64 1) ∧ w' = w := by
  obtain ⟨ao, cap, h1, -⟩ := h
  have c0 : w.cell? ⟨mb, 0, none⟩ = some (.int .i64 n) := by rw [cell_of_row w _ _ _ _ _ h1]; rfl
  clear h1
  by_cases h1 : a < 0
  · clear hbad
    go_enter Try.func33, Try.ntmps33
    go_wp2
    go_ret
    exact ⟨rfl, rfl⟩
  · by_cases h2 : (n : Int) ≤ a
    · clear hbad
      go_enter Try.func33, Try.ntmps33
      go_wp2
      go_ret
      exact ⟨rfl, rfl⟩
    · by_cases h3 : b < 0
      · clear hbad
        go_enter Try.func33, Try.ntmps33
        go_wp2
        go_ret
        exact ⟨rfl, rfl⟩
      · by_cases h4 : (n : Int) ≤ b
        · clear hbad
          go_enter Try.func33, Try.ntmps33
          go_wp2
          go_ret
          exact ⟨rfl, rfl⟩
        · have h5 : a = b := by omega
          clear hbad
          subst h5
          go_enter Try.func33, Try.ntmps33
          go_wp2
          go_ret
          exact ⟨rfl, rfl⟩

end Go.Proofs.Ytflcdbefakjcbaa
