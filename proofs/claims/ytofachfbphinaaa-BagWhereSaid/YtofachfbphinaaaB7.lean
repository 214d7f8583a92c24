/- The contracts of find and of its function. -/
import Derived.Test.YtofachfbphinaaaB5
import Derived.Test.YtofachfbphinaaaB6
namespace Go.Proofs.Ytofachfbphinaaa
open Go.RowKit Go.Gav Go.BigFrame

/-- The first place that is not below, and the first that is above. -/
def LoP (ks : Nat → Int) (n : Nat) (k : Int) (r : Nat) : Prop := r ≤ n ∧ (∀ j, j < r → ks j < k) ∧ (∀ j, r ≤ j → j < n → k ≤ ks j)
def HiP (ks : Nat → Int) (n : Nat) (k : Int) (r : Nat) : Prop := r ≤ n ∧ (∀ j, j < r → ks j ≤ k) ∧ (∀ j, r ≤ j → j < n → k < ks j)
def FindV (ks : Nat → Int) (n : Nat) (k : Int) (v : Value) : Prop := ∃ lo hi : Nat, v = .tuple #[.int .i64 lo, .int .i64 hi] ∧ LoP ks n k lo ∧ HiP ks n k hi
/-- What the function in find answers. -/
def upTo (a b : Int) : Int := if a ≤ b then -1 else 1

set_option maxRecDepth 100000 in
theorem findcI (x y : Int) (bx b : Nat) (w : World) (hbx : w.cell? ⟨bx, 0, none⟩ = some (.pointer (some ⟨b, 0, none⟩))) (hb : w.cell? ⟨b, 0, none⟩ = some (.func (.func 11) #[] #[])) :
    Calls Try.prog 50 #[.int .i64 x, .int .i64 y, .pointer (some ⟨bx, 0, none⟩)] w fun e w' => e = .returned (.int .i64 (upTo (x) (y))) ∧ Only (fun _ => False) w w' := by
  
  have hle : (sgn (x) (y) ≤ 0) = (x ≤ y) := propext (sgn_le _ _)
  by_cases h : x ≤ y
  · have e : upTo (x) (y) = -1 := by unfold upTo; rw [if_pos h]
    have h1 : sgn (x) (y) ≤ 0 := by rw [hle]; exact h
    rw [e]
    clear hle e
    go_enter Try.func50, Try.ntmps50
    go_wp2_with (first | (go_at_call 11; refine (order_at x y _).mono ?_; rintro _ w1 ⟨rfl, o1⟩))
    go_ret
    exact ⟨rfl, o1⟩
  · have e : upTo (x) (y) = 1 := by unfold upTo; rw [if_neg h]
    have h1 : ¬ sgn (x) (y) ≤ 0 := by rw [hle]; exact h
    rw [e]
    clear hle e
    go_enter Try.func50, Try.ntmps50
    go_wp2_with (first | (go_at_call 11; refine (order_at x y _).mono ?_; rintro _ w1 ⟨rfl, o1⟩))
    go_ret
    exact ⟨rfl, o1⟩

theorem entersI : (∀ args w, (callFunc 11 args).run Try.prog w = .ok (.enter 11 args) w) ∧ (∀ args w, (callFunc 50 args).run Try.prog w = .ok (.enter 50 args) w) := by
  constructor
  · intro args w
    go_simp
  · intro args w
    go_simp

/-- A bag at block b, that holds xs. -/
structure BAtI (w : World) (b : Nat) (v : Value) (n : Nat) (el : Nat → Int) : Prop where
  head : w.heap[b]? = some (.cells #[.func (.func 11) #[] #[], v] 71 (0, 0))
  sort : ∀ i j, i ≤ j → j < n → (el i) ≤ (el j)

set_option maxRecDepth 100000 in
set_option maxHeartbeats 1000000 in
theorem findI (b : Nat) (ao : Option Addr) (n cap : Nat) (el : Nat → Int) (x : Int) (w : World) (hh : w.heap[b]? = some (.cells #[.func (.func 11) #[] #[], .slice ao n cap] 71 (0, 0))) (hn : n ≤ 1000) (hr : ReadsI w ao n el)
    (hsort : ∀ i j, i ≤ j → j < n → (el i) ≤ (el j)) :
    Calls Try.prog 40 #[.pointer (some ⟨b, 0, none⟩), .int .i64 x] w fun e w' => ∃ v : Value, e = .returned v ∧ FindV (fun i => (el i)) n (x) v ∧ Only (fun _ => False) w w' := by
  obtain ⟨b0, b1⟩ := two_cells hh
  have hA : Only (fun _ => False) w (w.alloc (Obj.cells #[.pointer (some ⟨b, 0, none⟩)] 25)) := (Only.refl _ _).alloc _
  have a0 : (w.alloc (Obj.cells #[.pointer (some ⟨b, 0, none⟩)] 25)).heap[w.heap.size]? = some (.cells #[.pointer (some ⟨b, 0, none⟩)] 25 (0, 0)) := heap_alloc_new w _
  have p0 := cell_of_one a0
  
  have HA := Lib.hid hA
  have c0 := hA.cell b0 id
  have c1 := hA.cell b1 id
  have HR := Lib.hid hr
  have HS := Lib.hid hsort
  clear hA a0 hr hsort b0 b1 hh
  have hB1 : ∀ W, Only (fun _ => False) w W → Calls Try.prog 49 #[.slice ao n cap, .int .i64 x, .func (.func 11) #[] #[]] W fun e w' => ∃ v : Value, e = .returned v ∧ FoundVI (fun y => sgn (y) (x)) el n v ∧ Only (fun _ => False) W w' := fun W hW =>
    bsfI ao n cap el x (fun y => sgn (y) (x)) 11 #[] W hn (HR.out.only hW (fun _ _ => id)) entersI.1 (fun y w' _ => order_at y x w') (fun i j hij hj h => by
      rw [sgn_neg] at h ⊢
      have := HS.out i j hij hj
      omega)
  have hB2 : ∀ W, Only (fun _ => False) w W → W.cell? ⟨w.heap.size, 0, none⟩ = some (.pointer (some ⟨b, 0, none⟩)) → W.cell? ⟨b, 0, none⟩ = some (.func (.func 11) #[] #[]) → Calls Try.prog 49 #[.slice ao n cap, .int .i64 x, .func (.func 50) #[] #[.pointer (some ⟨w.heap.size, 0, none⟩)]] W fun e w' => ∃ v : Value, e = .returned v ∧ FoundVI (fun y => upTo (y) (x)) el n v ∧ Only (fun _ => False) W w' := fun W hW h1 h2 =>
    bsfI ao n cap el x (fun y => upTo (y) (x)) 50 #[.pointer (some ⟨w.heap.size, 0, none⟩)] W hn (HR.out.only hW (fun _ _ => id)) entersI.2 (fun y w' ho => findcI y x w.heap.size b w' (ho.cell h1 id) (ho.cell h2 id)) (fun i j hij hj h => by
      have := HS.out i j hij hj
      unfold upTo at h ⊢
      split at h
      · rw [if_pos (by omega)]; decide
      · simp at h)
  have HB1 := Lib.hid hB1
  have HB2 := Lib.hid hB2
  clear hB1 hB2
  go_enter Try.func40, Try.ntmps40
  go_wp2_with (fail)
  go_region_held3 (fun w' => w'.cell? ⟨w.heap.size, 0, none⟩ = some (.pointer (some ⟨b, 0, none⟩)) ∧ w'.cell? ⟨b, 0, none⟩ = some (.func (.func 11) #[] #[]) ∧ w'.cell? ⟨b, 1, none⟩ = some (.slice ao n cap))
    (first | exact ⟨p0, c0, c1⟩ | exact ⟨o1.cell p0 id, o1.cell c0 id, o1.cell c1 id⟩) (first | (go_at_call 49; refine (HB1.out _ (HA.out.drewN _)).mono ?_; rintro _ w1 ⟨_, rfl, ⟨r1, f1, rfl, hf1⟩, o1⟩))
  have O1 : Hid (Only (fun _ => False) w w1) := (HA.out.drewN 1).trans o1 (fun _ _ h => h)
  have p0 := o1.cell p0 id
  have c0 := o1.cell c0 id
  have c1 := o1.cell c1 id
  clear o1
  go_wp2_with (first | (go_at_call 49; refine (HB2.out _ O1.out p0 c0).mono ?_; rintro _ w2 ⟨_, rfl, ⟨r2, f2, rfl, hf2⟩, o2⟩))
  go_ret2
  refine ⟨_, rfl, ⟨r1, r2, rfl, ?_, ?_⟩, O1.out.trans o2 (fun _ _ h => h)⟩
  · refine ⟨hf1.1, fun j hj => (sgn_neg _ _).1 (hf1.2.1 j hj), fun j h1 h2 => ?_⟩
    have := hf1.2.2 j h1 h2
    exact Int.not_lt.1 (fun h => absurd ((sgn_neg _ _).2 h) (Int.not_lt.2 this))
  · refine ⟨hf2.1, fun j hj => ?_, fun j h1 h2 => ?_⟩
    · have := hf2.2.1 j hj
      simp only [upTo] at this
      split at this
      · assumption
      · simp at this
    · have := hf2.2.2 j h1 h2
      simp only [upTo] at this
      split at this
      · simp at this
      · exact Int.not_le.1 (by assumption)

end Go.Proofs.Ytofachfbphinaaa
