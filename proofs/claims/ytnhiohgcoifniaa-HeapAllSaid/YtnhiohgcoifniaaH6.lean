/- The contracts of Len, Get, New, Min. -/
import Derived.Test.YtnhiohgcoifniaaH5
namespace Go.Proofs.Ytnhiohgcoifniaa
open Go.RowKit Go.Gav Go.BigFrame
open Go.Maps (Tidy IsMap)

/-- A heap at block hb, that holds the entries S, which are in order. -/
def HRep (w : World) (hb lb mb : Nat) (S : List En) : Prop := ∃ L D v, HAt w hb lb mb L D v ∧ HeapP (atE L) L.length ∧ Holds L S

theorem HRep.only {S' : Nat → Prop} {w w' : World} {hb lb mb : Nat} {S : List En} (h : HRep w hb lb mb S) (ho : Only S' w w') (h1 : ¬ S' hb) (h2 : ¬ S' lb) (h3 : ¬ S' mb) : HRep w' hb lb mb S :=
  let ⟨L, D, v, a, b, c⟩ := h
  ⟨L, D, v, a.only ho h1 h2 h3, b, c⟩

theorem HAt.lts {w : World} {hb lb mb : Nat} {L : List En} {D : DataW Unit} {v : Value} (h : HAt w hb lb mb L D v) : hb < w.heap.size ∧ lb < w.heap.size ∧ mb < w.heap.size ∧ hb ≠ mb :=
  ⟨lt_of_block h.head, h.far.2.2, h.map.lt, h.far.1⟩
theorem HRep.lts {w : World} {hb lb mb : Nat} {S : List En} (h : HRep w hb lb mb S) : hb < w.heap.size ∧ lb < w.heap.size ∧ mb < w.heap.size ∧ hb ≠ mb :=
  let ⟨_, _, _, a, _, _⟩ := h
  a.lts

/-- A key that is there. -/
theorem HAt.look_there {w : World} {hb lb mb : Nat} {L : List En} {D : DataW Unit} {v : Value} (h : HAt w hb lb mb L D v) (i : Nat) (hi : i < L.length) (k : Int) (hk : (atE L i).1 = k) :
    (Instr.lookup 61 (.map (some mb)) (.int .i64 k) true).run Try.prog w = .ok (.tuple #[.int .i64 i, .bool true]) w ∧ (Instr.lookup 61 (.map (some mb)) (.int .i64 k) false).run Try.prog w = .ok (.int .i64 i) w := by
  subst hk
  have hr := h.idx.range i hi
  have hkey : keyOf Try.prog 3 (.int .i64 (atE L i).1) = some (.int .i64 (atE L i).1) := Go.Maps.keyOf_int_mk Try.underlying3 hr
  constructor
  · obtain ⟨x, ps, hrun, hv⟩ := h.map.look_ok keyed Try.underlying61 (zero3 w) (plainElem_int Try.underlying3 (by decide)) hkey
    obtain ⟨c, rfl, hc, -⟩ := plainElem_int_inv Try.underlying3 hv
    rw [h.idx.at_ i hi, h.idx.has i hi] at *
    simp only [Prod.mk.injEq, DataW.lit.injEq, Lit.int.injEq, true_and] at hc
    rw [hrun, hc.1]
  · obtain ⟨c, hrun, hat, -⟩ := h.map.lookup_int keyed Try.underlying61 Try.underlying3 (zero3 w) hkey
    rw [h.idx.at_ i hi] at hat
    simp only [DataW.lit.injEq, Lit.int.injEq, true_and] at hat
    rw [hrun, hat]

/-- A key that is not there. -/
theorem HAt.look_none {w : World} {hb lb mb : Nat} {L : List En} {D : DataW Unit} {v : Value} (h : HAt w hb lb mb L D v) (k : Int) (hk : I64 k) (hn : ∀ i, i < L.length → (atE L i).1 ≠ k) :
    Go.Maps.has D (.int .i64 k) = false ∧ (Instr.lookup 61 (.map (some mb)) (.int .i64 k) true).run Try.prog w = .ok (.tuple #[.int .i64 0, .bool false]) w := by
  have hkey : keyOf Try.prog 3 (.int .i64 k) = some (.int .i64 k) := Go.Maps.keyOf_int_mk Try.underlying3 hk
  have hh : Go.Maps.has D (.int .i64 k) = false := by
    cases e : Go.Maps.has D (.int .i64 k) with
    | false => rfl
    | true => obtain ⟨i, hi, e2⟩ := h.idx.only k e; exact absurd e2 (hn i hi)
  obtain ⟨x, ps, hrun, hv⟩ := h.map.look_ok keyed Try.underlying61 (zero3 w) (plainElem_int Try.underlying3 (by decide)) hkey
  obtain ⟨c, rfl, hc, -⟩ := plainElem_int_inv Try.underlying3 hv
  rw [Go.Maps.atKey_of_not_has hh] at hc
  simp only [Prod.mk.injEq, DataW.lit.injEq, Lit.int.injEq, true_and] at hc
  rw [hh, ← hc.1] at hrun
  exact ⟨hh, hrun⟩

theorem holds_cases {L S : List En} (h : Holds L S) (k : Int) : (∃ i, i < L.length ∧ (atE L i).1 = k ∧ getS S k = some (atE L i).2) ∨ ((∀ i, i < L.length → (atE L i).1 ≠ k) ∧ (∀ y ∈ S, y.1 ≠ k) ∧ getS S k = none) := by
  rcases getS_cases S k with ⟨x, hx, rfl⟩ | hn
  · obtain ⟨i, hi, e⟩ := List.getElem_of_mem (h.perm.mem_iff.2 hx)
    refine .inl ⟨i, hi, by rw [atE_get L i hi, e], ?_⟩
    rw [getS_some h.nd hx, atE_get L i hi, e]
  · exact .inr ⟨fun i hi => hn _ (h.perm.mem_iff.1 (atE_mem L i hi)), hn, getS_none hn⟩

theorem h_len (hb lb mb : Nat) (S : List En) (w : World) (h : HRep w hb lb mb S) :
    Calls Try.prog 20 #[.pointer (some ⟨hb, 0, none⟩)] w fun e w' => e = .returned (.int .i64 S.length) ∧ w' = w := by
  obtain ⟨L, D, v, h1, -, h3⟩ := h
  obtain ⟨ao, cap, rfl, -, -⟩ := h1.row.len
  obtain ⟨-, c1, -⟩ := three_cells h1.head
  rw [h3.len] at c1
  obtain ⟨n, hn⟩ : ∃ n, n = S.length := ⟨_, rfl⟩
  rw [← hn] at c1 ⊢
  clear h1 h3 hn
  go_enter Try.func20, Try.ntmps20
  go_wp2
  go_ret
  exact ⟨rfl, rfl⟩

theorem h_get (hb lb mb : Nat) (S : List En) (k : Int) (hk : I64 k) (w : World) (h : HRep w hb lb mb S) :
    Calls Try.prog 15 #[.pointer (some ⟨hb, 0, none⟩), .int .i64 k] w fun e w' => e = .returned (.tuple #[.int .i64 ((getS S k).getD 0), .bool (getS S k).isSome]) ∧ w' = w := by
  obtain ⟨L, D, v, h1, -, h3⟩ := h
  obtain ⟨-, c1, c2⟩ := three_cells h1.head
  rcases holds_cases h3 k with ⟨i, hi, e1, e2⟩ | ⟨hn, -, e2⟩
  · obtain ⟨cap, rfl, -, -, -, -, hc⟩ := h1.row.some (by omega)
    obtain ⟨-, d1⟩ := hc i hi
    obtain ⟨l1, -⟩ := h1.look_there i hi k e1
    obtain ⟨n, hn⟩ : ∃ n, n = L.length := ⟨_, rfl⟩
    rw [← hn] at c1 hi
    rw [e2]
    obtain ⟨b, hb'⟩ : ∃ b, b = (atE L i).2 := ⟨_, rfl⟩
    rw [← hb'] at d1 ⊢
    have hsm : n ≤ 1000 := by rw [hn]; exact h1.small
    clear h1 h3 hc e1 e2 hn hb'
    go_enter Try.func15, Try.ntmps15
    go_wp2
    go_ret2
    exact ⟨rfl, rfl⟩
  · obtain ⟨-, l1⟩ := h1.look_none k hk hn
    rw [e2]
    clear h1 h3 hn e2
    go_enter Try.func15, Try.ntmps15
    go_wp2
    go_ret2
    exact ⟨rfl, rfl⟩

theorem results_row_tmp {P : Program} {fn : Func} {p u : Tmp} {ty : TypeId} (h : fn.results = #[.cell p ty, .tmp u]) (tmps : Array Value) (w : World) (g : Nat) (t : TypeId) (cs : Array Value) (d : TypeDesc)
    (hp : tmps.getD p undef = .pointer (some ⟨g, 0, none⟩)) (hg : w.heap[g]? = some (.cells cs t (0, 0)))
    (hu : P.underlying ty = some d) (hd : (match d with | .struct _ | .array _ _ => true | _ => false) = true) (hi : (P.info? ty).map (·.size) = some cs.size) :
    (results fn tmps).run P w = .ok (.tuple #[.agg cs, tmps.getD u undef]) w := by
  rw [results_cell_tmp h, hp]
  simp [asAddr, run_loadVar_row w g t ty cs (0, 0) d hg hu hd hi, Result.andThen]

/-- The least entry, and whether there is one. -/
def headE (S : List En) : En := S.headD (0, 0)

theorem h_min (hb lb mb : Nat) (S : List En) (w : World) (h : HRep w hb lb mb S) :
    Calls Try.prog 19 #[.pointer (some ⟨hb, 0, none⟩)] w fun e w' => e = .returned (.tuple #[.agg #[.int .i64 (headE S).1, .int .i64 (headE S).2], .bool (!S.isEmpty)]) ∧ Only (fun _ => False) w w' := by
  have HH := Lib.hid h
  cases S with
  | nil =>
    clear h
    go_enter Try.func19, Try.ntmps19
    go_wp2_with (fail)
    refine (h_len hb lb mb [] _ (HH.out.only ((Only.refl (fun _ => False) w).alloc _) id id id)).mono ?_
    rintro e w2 ⟨rfl, rfl⟩
    go_wp2
    refine bodyPost_ret (results_row_tmp rfl _ _ w.heap.size 40 _ _ rfl (heap_alloc_new _ _) Try.underlying40 rfl (by kernel_rfl)) rfl ?_
    exact ⟨rfl, (Only.refl _ _).alloc _⟩
  | cons x xs =>
    obtain ⟨L, D, v, h1, h2, h3⟩ := h
    have hL : 0 < L.length := by rw [h3.len]; simp
    obtain ⟨S', hS⟩ := h3.top h2 hL
    obtain ⟨cap, rfl, -, -, -, hlt, hc⟩ := h1.row.some hL
    obtain ⟨-, c1, -⟩ := three_cells h1.head
    obtain ⟨d0, d1⟩ := hc 0 hL
    have hx : atE L 0 = x := by cases hS; rfl
    rw [hx] at d0 d1
    simp only [Nat.zero_mul, Nat.zero_add] at d0 d1
    obtain ⟨x1, x2⟩ := x
    have hh := h1.lts.1
    obtain ⟨n, hn⟩ : ∃ n, n = L.length := ⟨_, rfl⟩
    rw [← hn] at c1 hL
    clear h1 h2 h3 hS hc hx hn
    go_enter Try.func19, Try.ntmps19
    go_wp2_with (fail)
    refine (h_len hb lb mb _ _ (HH.out.only ((Only.refl (fun _ => False) w).alloc _) id id id)).mono ?_
    rintro e w2 ⟨rfl, rfl⟩
    have hl : ((((x1, x2) :: xs).length : Nat) : Int) = 0 ↔ False := by simp; omega
    go_wp2
    refine bodyPost_ret (results_row_tmp rfl _ _ w.heap.size 40 _ _ rfl (heap_alloc_new _ _) Try.underlying40 rfl (by kernel_rfl)) rfl ?_
    exact ⟨rfl, (Only.refl _ _).alloc _⟩

theorem h_new (w : World) :
    Calls Try.prog 9 #[.func (.func 10) #[] #[]] w fun e w' => ∃ hb lb mb, e = .returned (.pointer (some ⟨hb, 0, none⟩)) ∧ HRep w' hb lb mb [] ∧ w.heap.size ≤ hb ∧ w.heap.size ≤ lb ∧ w.heap.size ≤ mb ∧ Only (fun _ => False) w w' := by
  have hen : ∀ w : World, (binOp BinOp.eql 26 (Value.func (Fn.func 10) #[] #[]) Value.nilFunc).run Try.prog w = .ok (.bool false) w := fun w => by kernel_rfl
  have hmm := @run_makeMap Try.prog
  go_enter Try.func9, Try.ntmps9
  go_wp2
  go_ret
  have hm : (w.alloc (.map #[] 0)).ownsMap Try.prog 3 (plainElem (H := Unit) Try.prog 3) w.heap.size 0 (.map []) := World.ownsMap_made w Try.prog 3 _
  refine ⟨w.heap.size + 1, w.heap.size + 1, w.heap.size, rfl, ⟨[], .map [], .slice none 0 0, ⟨heap_alloc2_new _ _ _, .inl ⟨rfl, rfl⟩, hm.alloc _, ⟨rfl, fun i hi => by simp at hi, fun i hi => by simp at hi, fun k hk => by simp [Go.Maps.has] at hk, fun i hi => by simp at hi⟩, ⟨by omega, fun h => (by cases h), by simp⟩, by simp⟩, fun j j0 jn => by simp at jn, ⟨List.Perm.refl _, List.Pairwise.nil, List.nodup_nil⟩⟩, by omega, by omega, Nat.le_refl _, ((Only.refl _ _).alloc _).alloc _⟩

end Go.Proofs.Ytnhiohgcoifniaa
