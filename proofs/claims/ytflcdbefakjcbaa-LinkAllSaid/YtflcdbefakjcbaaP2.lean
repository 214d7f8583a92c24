/- A law on append that tells where the row lies behind it; marks of loops over functions. No statement is proved here. -/
import Derived.Test.YtflcdbefakjcbaaP1
import Derived.OwnWalkIn
namespace Go.Gav
open Go Go.RowKit

section
variable {P : Program}

theorem run_append_ownF (w : World) (base : Nat) (t ty e : TypeId) (i : TypeInfo) (z : Value) (size bytes : Nat) (ht : P.underlying t = some (.slice e)) (hi : P.info? e = some i) (hz : i.zero = some z)
    (hsize : i.size = size) (hby : i.bytes = bytes) (hzs : z.cells.size = size) (hsz : 0 < size)
    (v : Value) (n : Nat) (xs : List Value) (hown : w.ownsRow base e size v n xs)
    (a : Addr) (m c : Nat) (news : List Value) (hl : news.length = m * size) (hnews : ∀ j u, news[j]? = some u → w.cell? (a.add j) = some u) (h1 : ∀ u ∈ news, u.oneCell' = true)
    (h63 : n + m ≤ maxLen) (hbytes : (n + m) * bytes ≤ 140737488355328) (hbase : base ≤ w.heap.size) :
    ∃ v' w', (Builtin.append_ #[t, t] ty #[v, .slice (some a) m c]).run P w = .ok v' w' ∧ w'.ownsRow base e size v' (n + m) (xs ++ news) ∧ w.grownBy w' v.ownBlock ∧
      ∀ k, v'.ownBlock = some k → v.ownBlock = some k ∨ w.heap.size ≤ k := by
  obtain ⟨v', w', hr, h2, h3, -⟩ := run_append_own (P := P) w base t ty e i z size bytes ht hi hz hsize hby hzs hsz v n xs hown a m c news hl hnews h1 h63 hbytes hbase
  refine ⟨v', w', hr, h2, h3, ?_⟩
  rcases hown.2 with ⟨rfl, rfl⟩ | ⟨g, cap, cur, rfl, hbg, hg, hnc, hcm, hcs, htake⟩
  · have hx : xs = [] := List.eq_nil_of_length_eq_zero (by simpa using hown.1)
    subst hx
    obtain ⟨v2, w2, hr2, g2, -, -⟩ := run_append_own (P := P) w w.heap.size t ty e i z size bytes ht hi hz hsize hby hzs hsz (.slice none 0 0) 0 [] (World.ownsRow_nil w _ e size) a m c news hl hnews h1 h63 hbytes (Nat.le_refl _)
    have he := hr.symm.trans hr2
    cases he
    exact fun k hk => .inr (g2.lt k hk).1
  · by_cases hroom : n + m ≤ cap
    · have hr2 := run_append_room (P := P) w t ty e i ht hi g n cap cur hg a m c news (by rw [hsize]; exact hl) hnews h1 hroom (by rw [hsize, hl, hcs, ← Nat.add_mul]; exact Nat.mul_le_mul_right _ hroom)
      have he := hr.symm.trans hr2
      cases he
      exact fun k hk => .inl hk
    · have holds : ∀ j u, xs[j]? = some u → w.cell? ((⟨g, 0, none⟩ : Addr).add j) = some u := hown.cells (g := g) rfl
      have hr2 := run_append_grow (P := P) w t ty e i z ht hi hz ⟨g, 0, none⟩ n cap xs (by rw [hsize]; exact hown.1) holds a m c news (by rw [hsize]; exact hl) hnews (by omega) (by simp only [maxLen] at h63; omega) (growslice_fits (by omega) (by rw [hby]; exact hbytes))
      have he := hr.symm.trans hr2
      cases he
      intro k hk
      simp [Value.ownBlock] at hk
      omega

theorem wpListIn_append_ownF {F : Fence} {n : Nat} (w : World) {ops : Array Oper} {rest : List Oper} {o : Oper} {a : Act} {Q : Exit → Act → World → Prop}
    (hg : o.guard = none) (s x : Operand) (t : TypeId) (hop : o.op = Op.call { callee := Callee.builtin Builtin.append, args := #[s, x], argTypes := #[t, t] })
    (base : Nat) (e : TypeId) (i : TypeInfo) (z : Value) (size bytes : Nat) (h1 : P.underlying t = some (.slice e)) (h2 : P.info? e = some i) (h3 : i.zero = some z) (h4 : i.size = size) (h5 : i.bytes = bytes) (h6 : z.cells.size = size) (h7 : 0 < size)
    (v : Value) (k : Nat) (xs : List Value) (hs : a.eval s = v) (hown : w.ownsRow base e size v k xs) (ad : Addr) (m c : Nat) (news : List Value) (hx : a.eval x = .slice (some ad) m c) (hn : news.length = m * size)
    (hc : ∀ j u, news[j]? = some u → w.cell? (ad.add j) = some u) (h1c : ∀ u ∈ news, u.oneCell' = true) (b1 : k + m ≤ maxLen) (b2 : (k + m) * bytes ≤ 140737488355328) (b3 : base ≤ w.heap.size)
    (hK : ∀ v' w', w'.ownsRow base e size v' (k + m) (xs ++ news) → w.grownBy w' v.ownBlock → (∀ q, v'.ownBlock = some q → v.ownBlock = some q ∨ w.heap.size ≤ q) → wpListIn F n P ops Q rest (a.put o.dst v') w') :
    wpListIn F n P ops Q (o :: rest) a w := by
  refine wpListIn_plain hg fun K hK' => ?_
  obtain ⟨v', w', hrun, r1, r2, r3⟩ := run_append_ownF (P := P) w base t o.type e i z size bytes h1 h2 h3 h4 h5 h6 h7 v k xs hown ad m c news hn hc h1c b1 b2 b3
  unfold Oper.wpIn
  refine ⟨?_, ?_⟩
  · simp [Oper.about, hop, resolve, Target.leads, Sem.run_pure]
  · rw [Oper.semAt_plain F _ _ (by rw [hop]; intro c hc'; cases hc')]
    simp [execOp, hop, resolve, invoke, builtin, hs, hx, hrun, Result.andThen]
    exact hK' _ _ (hK v' w' r1 r2 r3)

/-! ### The marks that a function's loops over functions leave -/
def marks (Ds : List Nat) : List Deferred := Ds.map fun D => { target := .collected D, args := #[] }

/-- At the return each mark is taken up. -/
theorem leaves_marks {F : Fence} {n : Nat} {fn : Func} {tmps : Array Value} {R : Ending → World → Prop} : ∀ (Ds : List Nat) (W : World), Ds.Nodup → (∀ D ∈ Ds, W.heap[D]? = some (.deferred (some []))) →
    (∀ W', Only (fun k => k ∈ Ds) W W' → LeavesIn F n P fn tmps R [] .returning W') → LeavesInM F n P fn tmps R (marks Ds) .returning W
  | [], W, _, _, h => h W (Only.refl _ _)
  | D :: Ds, W, hn, hD, h => by
    obtain ⟨h1, h2⟩ := List.nodup_cons.1 hn
    refine ⟨by simp, .inl ⟨_, _, rfl, run_takeDeferred (hD D (by simp)), ?_⟩⟩
    have ho : Only (fun k => k = D) W (W.putObj D (.deferred none)) := only_putObj (Only.refl _ _) _ _ (.inl rfl)
    refine leaves_marks Ds _ h2 (fun D' hD' => ho.keep (hD D' (by simp [hD'])) (fun e => h1 (e ▸ hD'))) (fun W' ho' => h W' ?_)
    exact (ho.mono (fun k hk => by simp [hk])).trans ho' (fun j _ hj => by simp [hj])

/-- Slots are set. -/
def putS (us : Nat → Value) : List Nat → Array Value → Array Value
  | [], t => t
  | k :: ks, t => putS us ks (t.setIfInBounds k (us k))

/-- A loop whose rounds may hold loops over functions: the marks grow. -/
theorem wp_loop_marks {c : Code} {Q : Exit → Act → World → Prop} {a : Act} {w : World} (slots : List Nat) (rel : List Nat → (Nat → Value) → World → Prop) (μ : (Nat → Value) → World → Nat) (Ds0 : List Nat) (hd : a.defers = marks Ds0)
    (h0 : rel Ds0 (fun k => a.tmps.getD k undef) w) (hput : putS (fun k => a.tmps.getD k undef) slots a.tmps = a.tmps)
    (hμ : ∀ us us' w, (∀ k ∈ slots, us k = us' k) → μ us w = μ us' w)
    (hget : ∀ us, ∀ k ∈ slots, (putS us slots a.tmps).getD k undef = us k)
    (round : ∀ Ds us w, rel Ds us w → c.wp P (Exit.then (fun a' w' => ∃ Ds' t, a' = ⟨t, marks Ds'⟩ ∧ putS (fun k => t.getD k undef) slots a.tmps = t ∧ rel Ds' (fun k => t.getD k undef) w' ∧ μ (fun k => t.getD k undef) w' < μ us w) Q) ⟨putS us slots a.tmps, marks Ds⟩ w) :
    (Code.loop c).wp P Q a w := by
  refine wp_loop (fun a' w' => ∃ Ds us, a' = ⟨putS us slots a.tmps, marks Ds⟩ ∧ rel Ds us w') (fun a' w' => μ (fun k => a'.tmps.getD k undef) w') ⟨Ds0, _, by rw [hput, ← hd], h0⟩ ?_
  rintro a1 w1 ⟨Ds, us, rfl, hr⟩
  refine wp_mono (round Ds us w1 hr) ?_
  intro e a2 w2 he
  cases e with
  | normal =>
    obtain ⟨Ds', t, rfl, ht, hr', hlt⟩ := he
    refine ⟨⟨Ds', _, by rw [ht], hr'⟩, ?_⟩
    have e1 := hμ (fun k => (putS us slots a.tmps).getD k undef) us w1 (fun k hk => hget us k hk)
    show μ (fun k => t.getD k undef) w2 < μ (fun k => (putS us slots a.tmps).getD k undef) w1
    omega
  | exit id => exact he
  | goto l => exact he
  | ret => exact he
  | panic ch => exact he
  | outgrown => exact he

end
end Go.Gav
