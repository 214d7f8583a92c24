/- The contracts of find and of its function. -/
import Derived.Test.YtofachfbphinaaaB5
import Derived.Test.YtofachfbphinaaaB6
import Derived.Test.YtofachfbphinaaaB7
namespace Go.Proofs.Ytofachfbphinaaa
open Go.RowKit Go.Gav Go.BigFrame


set_option maxRecDepth 100000 in
theorem findcM (x y : Int × Int) (bx b : Nat) (w : World) (hbx : w.cell? ⟨bx, 0, none⟩ = some (.pointer (some ⟨b, 0, none⟩))) (hb : w.cell? ⟨b, 0, none⟩ = some (.func (.func 22) #[] #[])) :
    Calls Try.prog 52 #[.agg #[.int .i64 x.1, .int .i64 x.2], .agg #[.int .i64 y.1, .int .i64 y.2], .pointer (some ⟨bx, 0, none⟩)] w fun e w' => e = .returned (.int .i64 (upTo (x.1) (y.1))) ∧ Only (fun _ => False) w w' := by
  have hA : Only (fun _ => False) w ((w.alloc (Obj.cells #[Value.int .i64 x.1, .int .i64 x.2] 49)).alloc (Obj.cells #[Value.int .i64 y.1, .int .i64 y.2] 49)) := ((Only.refl _ _).alloc _).alloc _
  have HA := Lib.hid hA
  have a0 : ((w.alloc (Obj.cells #[Value.int .i64 x.1, .int .i64 x.2] 49)).alloc (Obj.cells #[Value.int .i64 y.1, .int .i64 y.2] 49)).heap[w.heap.size]? = some (.cells #[Value.int .i64 x.1, .int .i64 x.2] 49 (0, 0)) := hp_alloc (heap_alloc_new w _) _
  have a1 : ((w.alloc (Obj.cells #[Value.int .i64 x.1, .int .i64 x.2] 49)).alloc (Obj.cells #[Value.int .i64 y.1, .int .i64 y.2] 49)).heap[w.heap.size + 1]? = some (.cells #[Value.int .i64 y.1, .int .i64 y.2] 49 (0, 0)) := by
    have := heap_alloc_new (w.alloc (Obj.cells #[Value.int .i64 x.1, .int .i64 x.2] 49)) (Obj.cells #[Value.int .i64 y.1, .int .i64 y.2] 49)
    simpa using this
  obtain ⟨x0, x1⟩ := two_cells a0
  obtain ⟨y0, y1⟩ := two_cells a1
  have c0 := hA.cell hbx id
  have c1 := hA.cell hb id
  clear hA a0 a1
  have hle : (sgn (x.1) (y.1) ≤ 0) = (x.1 ≤ y.1) := propext (sgn_le _ _)
  by_cases h : x.1 ≤ y.1
  · have e : upTo (x.1) (y.1) = -1 := by unfold upTo; rw [if_pos h]
    have h1 : sgn (x.1) (y.1) ≤ 0 := by rw [hle]; exact h
    rw [e]
    clear hle e
    go_enter Try.func52, Try.ntmps52
    go_wp2_with (fail)
    go_region_held3 (fun w' => w'.cell? ⟨bx, 0, none⟩ = some (.pointer (some ⟨b, 0, none⟩)) ∧ w'.cell? ⟨b, 0, none⟩ = some (.func (.func 22) #[] #[]) ∧ w'.cell? ⟨w.heap.size, 0, none⟩ = some (.int .i64 x.1) ∧ w'.cell? ⟨w.heap.size, 1, none⟩ = some (.int .i64 x.2) ∧ w'.cell? ⟨w.heap.size + 1, 0, none⟩ = some (.int .i64 y.1) ∧ w'.cell? ⟨w.heap.size + 1, 1, none⟩ = some (.int .i64 y.2))
      (first | exact ⟨c0, c1, x0, x1, y0, y1⟩ | exact ⟨o1.cell c0 id, o1.cell c1 id, o1.cell x0 id, o1.cell x1 id, o1.cell y0 id, o1.cell y1 id⟩) (first | (go_at_call 22; refine (level_at x.1 x.2 y.1 y.2 _).mono ?_; rintro _ w1 ⟨rfl, o1⟩))
    go_wp2
    go_ret
    exact ⟨rfl, (HA.out.drewN 1).trans o1 (fun _ _ h => h)⟩
  · have e : upTo (x.1) (y.1) = 1 := by unfold upTo; rw [if_neg h]
    have h1 : ¬ sgn (x.1) (y.1) ≤ 0 := by rw [hle]; exact h
    rw [e]
    clear hle e
    go_enter Try.func52, Try.ntmps52
    go_wp2_with (fail)
    go_region_held3 (fun w' => w'.cell? ⟨bx, 0, none⟩ = some (.pointer (some ⟨b, 0, none⟩)) ∧ w'.cell? ⟨b, 0, none⟩ = some (.func (.func 22) #[] #[]) ∧ w'.cell? ⟨w.heap.size, 0, none⟩ = some (.int .i64 x.1) ∧ w'.cell? ⟨w.heap.size, 1, none⟩ = some (.int .i64 x.2) ∧ w'.cell? ⟨w.heap.size + 1, 0, none⟩ = some (.int .i64 y.1) ∧ w'.cell? ⟨w.heap.size + 1, 1, none⟩ = some (.int .i64 y.2))
      (first | exact ⟨c0, c1, x0, x1, y0, y1⟩ | exact ⟨o1.cell c0 id, o1.cell c1 id, o1.cell x0 id, o1.cell x1 id, o1.cell y0 id, o1.cell y1 id⟩) (first | (go_at_call 22; refine (level_at x.1 x.2 y.1 y.2 _).mono ?_; rintro _ w1 ⟨rfl, o1⟩))
    go_wp2
    go_ret
    exact ⟨rfl, (HA.out.drewN 1).trans o1 (fun _ _ h => h)⟩

theorem entersM : (∀ args w, (callFunc 22 args).run Try.prog w = .ok (.enter 22 args) w) ∧ (∀ args w, (callFunc 52 args).run Try.prog w = .ok (.enter 52 args) w) := by
  constructor
  · intro args w
    go_simp
  · intro args w
    go_simp

/-- A bag at block b, that holds xs. -/
structure BAtM (w : World) (b : Nat) (v : Value) (n : Nat) (el : Nat → Int × Int) : Prop where
  head : w.heap[b]? = some (.cells #[.func (.func 22) #[] #[], v] 79 (0, 0))
  sort : ∀ i j, i ≤ j → j < n → (el i).1 ≤ (el j).1

set_option maxRecDepth 100000 in
set_option maxHeartbeats 1000000 in
theorem findM (b : Nat) (ao : Option Addr) (n cap : Nat) (el : Nat → Int × Int) (x : Int × Int) (w : World) (hh : w.heap[b]? = some (.cells #[.func (.func 22) #[] #[], .slice ao n cap] 79 (0, 0))) (hn : n ≤ 1000) (hr : ReadsM w ao n el)
    (hsort : ∀ i j, i ≤ j → j < n → (el i).1 ≤ (el j).1) :
    Calls Try.prog 43 #[.pointer (some ⟨b, 0, none⟩), .agg #[.int .i64 x.1, .int .i64 x.2]] w fun e w' => ∃ v : Value, e = .returned v ∧ FindV (fun i => (el i).1) n (x.1) v ∧ Only (fun _ => False) w w' := by
  obtain ⟨b0, b1⟩ := two_cells hh
  have hA : Only (fun _ => False) w ((w.alloc (Obj.cells #[.pointer (some ⟨b, 0, none⟩)] 46)).alloc (Obj.cells #[Value.int .i64 x.1, .int .i64 x.2] 49)) := ((Only.refl _ _).alloc _).alloc _
  have a0 : ((w.alloc (Obj.cells #[.pointer (some ⟨b, 0, none⟩)] 46)).alloc (Obj.cells #[Value.int .i64 x.1, .int .i64 x.2] 49)).heap[w.heap.size]? = some (.cells #[.pointer (some ⟨b, 0, none⟩)] 46 (0, 0)) := hp_alloc (heap_alloc_new w _) _
  have p0 := cell_of_one a0
  have a1 : ((w.alloc (Obj.cells #[.pointer (some ⟨b, 0, none⟩)] 46)).alloc (Obj.cells #[Value.int .i64 x.1, .int .i64 x.2] 49)).heap[w.heap.size + 1]? = some (.cells #[Value.int .i64 x.1, .int .i64 x.2] 49 (0, 0)) := by
    have := heap_alloc_new (w.alloc (Obj.cells #[.pointer (some ⟨b, 0, none⟩)] 46)) (Obj.cells #[Value.int .i64 x.1, .int .i64 x.2] 49)
    simpa using this
  obtain ⟨x0, x1⟩ := two_cells a1
  clear a1
  have HA := Lib.hid hA
  have c0 := hA.cell b0 id
  have c1 := hA.cell b1 id
  have HR := Lib.hid hr
  have HS := Lib.hid hsort
  clear hA a0 hr hsort b0 b1 hh
  have hB1 : ∀ W, Only (fun _ => False) w W → Calls Try.prog 51 #[.slice ao n cap, .agg #[.int .i64 x.1, .int .i64 x.2], .func (.func 22) #[] #[]] W fun e w' => ∃ v : Value, e = .returned v ∧ FoundVM (fun y => sgn (y.1) (x.1)) el n v ∧ Only (fun _ => False) W w' := fun W hW =>
    bsfM ao n cap el x (fun y => sgn (y.1) (x.1)) 22 #[] W hn (HR.out.only hW (fun _ _ => id)) entersM.1 (fun y w' _ => level_at y.1 y.2 x.1 x.2 w') (fun i j hij hj h => by
      rw [sgn_neg] at h ⊢
      have := HS.out i j hij hj
      omega)
  have hB2 : ∀ W, Only (fun _ => False) w W → W.cell? ⟨w.heap.size, 0, none⟩ = some (.pointer (some ⟨b, 0, none⟩)) → W.cell? ⟨b, 0, none⟩ = some (.func (.func 22) #[] #[]) → Calls Try.prog 51 #[.slice ao n cap, .agg #[.int .i64 x.1, .int .i64 x.2], .func (.func 52) #[] #[.pointer (some ⟨w.heap.size, 0, none⟩)]] W fun e w' => ∃ v : Value, e = .returned v ∧ FoundVM (fun y => upTo (y.1) (x.1)) el n v ∧ Only (fun _ => False) W w' := fun W hW h1 h2 =>
    bsfM ao n cap el x (fun y => upTo (y.1) (x.1)) 52 #[.pointer (some ⟨w.heap.size, 0, none⟩)] W hn (HR.out.only hW (fun _ _ => id)) entersM.2 (fun y w' ho => findcM y x w.heap.size b w' (ho.cell h1 id) (ho.cell h2 id)) (fun i j hij hj h => by
      have := HS.out i j hij hj
      unfold upTo at h ⊢
      split at h
      · rw [if_pos (by omega)]; decide
      · simp at h)
  have HB1 := Lib.hid hB1
  have HB2 := Lib.hid hB2
  clear hB1 hB2
  go_enter Try.func43, Try.ntmps43
  go_wp2_with (fail)
  go_region_held3 (fun w' => w'.cell? ⟨w.heap.size, 0, none⟩ = some (.pointer (some ⟨b, 0, none⟩)) ∧ w'.cell? ⟨b, 0, none⟩ = some (.func (.func 22) #[] #[]) ∧ w'.cell? ⟨b, 1, none⟩ = some (.slice ao n cap) ∧ w'.cell? ⟨w.heap.size + 1, 0, none⟩ = some (.int .i64 x.1) ∧ w'.cell? ⟨w.heap.size + 1, 1, none⟩ = some (.int .i64 x.2))
    (first | exact ⟨p0, c0, c1, x0, x1⟩ | exact ⟨o1.cell p0 id, o1.cell c0 id, o1.cell c1 id, o1.cell x0 id, o1.cell x1 id⟩) (first | (go_at_call 51; refine (HB1.out _ (HA.out.drewN _)).mono ?_; rintro _ w1 ⟨_, rfl, ⟨r1, f1, rfl, hf1⟩, o1⟩))
  have O1 : Hid (Only (fun _ => False) w w1) := (HA.out.drewN 1).trans o1 (fun _ _ h => h)
  have p0 := o1.cell p0 id
  have c0 := o1.cell c0 id
  have c1 := o1.cell c1 id
  have x0 := o1.cell x0 id
  have x1 := o1.cell x1 id
  clear o1
  go_wp2_with (fail)
  go_region_held3 (fun w' => w'.cell? ⟨w.heap.size, 0, none⟩ = some (.pointer (some ⟨b, 0, none⟩)) ∧ w'.cell? ⟨b, 0, none⟩ = some (.func (.func 22) #[] #[]) ∧ w'.cell? ⟨b, 1, none⟩ = some (.slice ao n cap) ∧ w'.cell? ⟨w.heap.size + 1, 0, none⟩ = some (.int .i64 x.1) ∧ w'.cell? ⟨w.heap.size + 1, 1, none⟩ = some (.int .i64 x.2))
    (first | exact ⟨p0, c0, c1, x0, x1⟩ | exact ⟨o2.cell p0 id, o2.cell c0 id, o2.cell c1 id, o2.cell x0 id, o2.cell x1 id⟩) (first | (go_at_call 51; refine (HB2.out _ (O1.out.drewN _) p0 c0).mono ?_; rintro _ w2 ⟨_, rfl, ⟨r2, f2, rfl, hf2⟩, o2⟩))
  go_wp2
  go_ret2
  refine ⟨_, rfl, ⟨r1, r2, rfl, ?_, ?_⟩, (O1.out.drewN 1).trans o2 (fun _ _ h => h)⟩
  · refine ⟨hf1.1, fun j hj => (sgn_neg _ _).1 (hf1.2.1 j hj), fun j h1 h2 => ?_⟩
    have := hf1.2.2 j h1 h2
    exact Int.not_lt.1 (fun h => absurd ((sgn_neg _ _).2 h) (Int.not_lt.2 this))
  · refine ⟨hf2.1, fun j hj => ?_, fun j h1 h2 => ?_⟩
    · have := hf2.2.1 j hj
      simp only [upTo] at this
      split at this
      · assumption
      · simp at this
    · have := hf2.2.2 j h1 h2
      simp only [upTo] at this
      split at this
      · simp at this
      · exact Int.not_le.1 (by assumption)

end Go.Proofs.Ytofachfbphinaaa
