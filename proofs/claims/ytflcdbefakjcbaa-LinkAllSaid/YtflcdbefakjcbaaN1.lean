/- Maps from links to queues: the map's operations. No statement is proved here. -/
import Derived.Test.YtflcdbefakjcbaaQ5
import Derived.Maps.RangeRun
import Derived.Maps.Keyed
namespace Go.Proofs.Ytflcdbefakjcbaa
open Go.RowKit Go.Gav Go.BigFrame

/-- A link: from one process to another one. -/
abbrev En := Int × Int
def keyV (p : En) : Value := .agg #[.int .i64 p.1, .int .i64 p.2]
def ptrV (q : Nat) : Value := .pointer (some ⟨q, 0, none⟩)

theorem fields62 : ∃ f g : Field, (Try.prog.fieldsOf 62).toList = [f, g] ∧ f.name ≠ "_" ∧ g.name ≠ "_" ∧ f.type = 3 ∧ g.type = 3 ∧ f.offset = 0 ∧ g.offset = 1 := by
  refine ⟨(Try.prog.fieldsOf 62)[0]!, (Try.prog.fieldsOf 62)[1]!, by kernel_rfl, by decide +kernel, by decide +kernel, by kernel_rfl, by kernel_rfl, by kernel_rfl, by kernel_rfl⟩

theorem run_part3 (w : World) (cs : Array Value) (i : Nat) (v : Value) (hv : cs[i]? = some v) : (part 3 cs i).run Try.prog w = .ok v w := by
  have h1 : (isAgg 3).run Try.prog w = .ok false w := by kernel_rfl
  simp [part, h1, hv, Result.andThen]

theorem run_eq62 (x y : En) (w : World) : (Op.equal 62 (keyV x) (keyV y)).run Try.prog w = .ok (decide (x = y)) w := by
  obtain ⟨a, b⟩ := x
  obtain ⟨c, d⟩ := y
  obtain ⟨f, g, hfs, hf, hg, tf, tg, of, og⟩ := fields62
  have hp : Try.prog.stoodInHeld 62 = false := by kernel_rfl
  have hu : Try.prog.underlying 62 = some (.struct (Try.prog.fieldsOf 62)) := by kernel_rfl
  have p0 : ∀ x y : Int, (part 3 #[.int .i64 x, .int .i64 y] 0).run Try.prog w = .ok (.int .i64 x) w := fun x y => run_part3 w _ _ _ rfl
  have p1 : ∀ x y : Int, (part 3 #[.int .i64 x, .int .i64 y] 1).run Try.prog w = .ok (.int .i64 y) w := fun x y => run_part3 w _ _ _ rfl
  have q : ∀ x y : Int, (Op.equalIn 9999 3 (.int .i64 x) (.int .i64 y)).run Try.prog w = .ok (x == y) w := fun x y => run_equalIn_int w 9998 3 .i64 .i64 x y Try.underlying3
  unfold keyV Op.equal Op.maxDepth
  rw [run_equalIn_struct w 9999 62 _ _ hu hp, hfs]
  simp only [Op.eqFields, hf, hg, tf, tg, of, og, ne_eq, not_false_eq_true, if_true, Sem.run_bind, p0, q, Result.andThen_ok]
  by_cases h1 : a = c
  · by_cases h2 : b = d
    · simp [h1, h2, p1, q, Result.andThen]
    · simp [h1, h2, p1, q, Result.andThen]
  · simp [h1]

theorem run_check62 (x : En) (em : Bool) (w : World) : (Instr.checkKey em 10000 62 (keyV x)).run Try.prog w = .ok () w := by
  obtain ⟨a, b⟩ := x
  unfold keyV
  kernel_rfl

/-- Where the key stands, and what it stands by. -/
def findP (x : En) : List (En × Nat) → Nat → Option (Nat × Value)
  | [], _ => none
  | p :: ps, i => if x = p.1 then some (i, ptrV p.2) else findP x ps (i + 1)

theorem findP_none {x : En} : ∀ {ps : List (En × Nat)} {i : Nat}, findP x ps i = none → ∀ p ∈ ps, p.1 ≠ x
  | [], _, _, p, hp => by cases hp
  | q :: ps, i, h, p, hp => by
    unfold findP at h
    split at h
    · cases h
    · rename_i hne
      rcases List.mem_cons.1 hp with rfl | hp
      · exact fun e => hne e.symm
      · exact findP_none h p hp
theorem findP_of_not {x : En} : ∀ (ps : List (En × Nat)) (i : Nat), (∀ p ∈ ps, p.1 ≠ x) → findP x ps i = none
  | [], _, _ => rfl
  | q :: ps, i, h => by
    unfold findP
    rw [if_neg (fun e => h q (by simp) e.symm)]
    exact findP_of_not ps (i + 1) (fun p hp => h p (by simp [hp]))
theorem findP_of_mem {x : En} {q : Nat} : ∀ (ps : List (En × Nat)) (i : Nat), (ps.map (·.1)).Nodup → (x, q) ∈ ps → ∃ j, findP x ps i = some (j, ptrV q)
  | [], _, _, h => by cases h
  | p :: ps, i, hn, h => by
    have hn' : p.1 ∉ ps.map (·.1) ∧ (ps.map (·.1)).Nodup := List.nodup_cons.1 hn
    unfold findP
    rcases List.mem_cons.1 h with rfl | h
    · exact ⟨i, by simp⟩
    · have : x ≠ p.1 := fun e => hn'.1 (List.mem_map.2 ⟨(x, q), h, e⟩)
      rw [if_neg this]
      exact findP_of_mem ps (i + 1) hn'.2 h

theorem run_findAsking62 (x : En) (w : World) : ∀ (es : List MapEntry) (ps : List (En × Nat)) (i : Nat), es.map (fun e => (e.key, e.val)) = ps.map (fun p => (keyV p.1, ptrV p.2)) → (Instr.findAsking 62 (keyV x) es i).run Try.prog w = .ok (findP x ps i) w
  | [], [], i, _ => rfl
  | [], _ :: _, i, h => by simp at h
  | _ :: _, [], i, h => by simp at h
  | e :: es, p :: ps, i, h => by
    simp only [List.map_cons, List.cons.injEq, Prod.mk.injEq] at h
    obtain ⟨⟨hk, hv⟩, ht⟩ := h
    have ih := run_findAsking62 x w es ps (i + 1) ht
    unfold Instr.findAsking findP
    rw [hk]
    simp only [Sem.run_bind, run_eq62, Result.andThen_ok]
    by_cases hx : x = p.1
    · simp [hx, hv]
    · simp [hx, ih]

theorem run_find62 (x : En) (w : World) (es : List MapEntry) (ps : List (En × Nat)) (h : es.map (fun e => (e.key, e.val)) = ps.map (fun p => (keyV p.1, ptrV p.2))) : (Instr.findKey 62 (keyV x) es).run Try.prog w = .ok (findP x ps 0) w := by
  have hu : Try.prog.underlying 62 = some (.struct (Try.prog.fieldsOf 62)) := by kernel_rfl
  cases es with
  | nil =>
    cases ps with
    | nil => simp [Instr.findKey, run_underlying hu, Instr.findNow, findP]
    | cons p ps => simp at h
  | cons e es =>
    have := run_findAsking62 x w (e :: es) ps 0 h
    simp [Instr.findKey, run_underlying hu, Instr.findNow, Instr.sameNow, this]

/-- The map at block mb holds these links, each with its queue's block. -/
def PMap (w : World) (mb : Nat) (ps : List (En × Nat)) : Prop :=
  ∃ es clock, w.heap[mb]? = some (.map es clock) ∧ es.toList.map (fun e => (e.key, e.val)) = ps.map (fun p => (keyV p.1, ptrV p.2)) ∧ (es.toList.map (·.born)).Nodup ∧ (∀ e ∈ es.toList, e.born < clock) ∧ (ps.map (·.1)).Nodup

theorem PMap.only {S : Nat → Prop} {w w' : World} {mb : Nat} {ps : List (En × Nat)} (h : PMap w mb ps) (ho : Only S w w') (hS : ¬ S mb) : PMap w' mb ps :=
  let ⟨es, clock, hb, r⟩ := h
  ⟨es, clock, ho.keep hb hS, r⟩
theorem PMap.lt {w : World} {mb : Nat} {ps : List (En × Nat)} (h : PMap w mb ps) : mb < w.heap.size := let ⟨_, _, hb, _⟩ := h; lt_of_block hb
theorem PMap.nd {w : World} {mb : Nat} {ps : List (En × Nat)} (h : PMap w mb ps) : (ps.map (·.1)).Nodup := let ⟨_, _, _, _, _, _, r⟩ := h; r
theorem PMap.new (w : World) : PMap (w.alloc (.map #[] 0)) w.heap.size [] := ⟨#[], 0, heap_alloc_new _ _, rfl, by simp, by simp, by simp⟩

/-- What a link's lookup answers. -/
def lookV (ps : List (En × Nat)) (x : En) : Value := match findP x ps 0 with | some (_, v) => v | none => .pointer none

theorem run_look {w : World} {mb : Nat} {ps : List (En × Nat)} (h : PMap w mb ps) (x : En) : (Instr.lookup 84 (.map (some mb)) (keyV x) false).run Try.prog w = .ok (lookV ps x) w := by
  obtain ⟨es, clock, hb, hm, -⟩ := h
  have hz : (zeroValue 24).run Try.prog w = .ok (.pointer none) w := by kernel_rfl
  have hf := run_find62 x w es.toList ps hm
  unfold lookV
  cases e : findP x ps 0 with
  | none => simp [Instr.lookup, run_underlying Try.underlying84, MapKept.run_getObj_map hb, run_check62, hf, e, hz, Result.andThen]
  | some jv => simp [Instr.lookup, run_underlying Try.underlying84, MapKept.run_getObj_map hb, run_check62, hf, e, Result.andThen]

theorem lookV_not {ps : List (En × Nat)} {x : En} (h : ∀ p ∈ ps, p.1 ≠ x) : lookV ps x = .pointer none := by simp [lookV, findP_of_not ps 0 h]
theorem lookV_mem {ps : List (En × Nat)} {x : En} {q : Nat} (hn : (ps.map (·.1)).Nodup) (h : (x, q) ∈ ps) : lookV ps x = ptrV q := by
  obtain ⟨j, hj⟩ := findP_of_mem ps 0 hn h
  simp [lookV, hj]

/-- A new link is put into the map. -/
theorem run_put {w : World} {mb : Nat} {ps : List (En × Nat)} (h : PMap w mb ps) (x : En) (q : Nat) (hx : ∀ p ∈ ps, p.1 ≠ x) :
    ∃ w', (Instr.mapUpdate 84 (.map (some mb)) (keyV x) (ptrV q)).run Try.prog w = .ok () w' ∧ PMap w' mb (ps ++ [(x, q)]) ∧ Only (fun k => k = mb) w w' := by
  obtain ⟨es, clock, hb, hm, hn, hc, hd⟩ := h
  have hf := run_find62 x w es.toList ps hm
  rw [findP_of_not ps 0 hx] at hf
  refine ⟨ChangeMaps.setBlock w mb (.map (es.push ⟨keyV x, ptrV q, clock⟩) (clock + 1)), ?_, ?_, ?_⟩
  · simp [Instr.mapUpdate, run_underlying Try.underlying84, MapKept.run_getObj_map hb, run_check62, hf, MapKept.run_setObj_map _ hb, Result.andThen, ChangeMaps.setBlock]
  · refine ⟨es.push ⟨keyV x, ptrV q, clock⟩, clock + 1, ?_, ?_, ?_, ?_, ?_⟩
    · have := lt_of_block hb
      simp [ChangeMaps.setBlock, this]
    · simp [hm]
    · rw [Array.toList_push, List.map_append, List.nodup_append]
      refine ⟨hn, by simp, ?_⟩
      intro a ha b hb2 e
      obtain ⟨y, hy, rfl⟩ := List.mem_map.1 ha
      have := hc y hy
      simp at hb2
      omega
    · intro e he
      rw [Array.toList_push] at he
      rcases List.mem_append.1 he with he | he
      · have := hc e he; omega
      · simp at he; subst he; simp
    · rw [List.map_append, List.nodup_append]
      refine ⟨hd, by simp, ?_⟩
      intro a ha b hb2 e
      obtain ⟨y, hy, rfl⟩ := List.mem_map.1 ha
      simp at hb2
      exact hx y hy (e.trans hb2)
  · refine ⟨rfl, rfl, rfl, by simp [ChangeMaps.setBlock], fun k hk hne => ?_⟩
    show (w.heap.setIfInBounds mb _)[k]? = _
    rw [Array.getElem?_setIfInBounds]
    split
    · rename_i e; exact absurd e.symm hne
    · rfl

end Go.Proofs.Ytflcdbefakjcbaa
