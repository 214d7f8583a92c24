/- The contracts of New, Len, Count. -/
import Derived.Test.YtofachfbphinaaaC3
import Derived.Test.YtofachfbphinaaaC4
import Derived.Test.YtofachfbphinaaaC5
namespace Go.Proofs.Ytofachfbphinaaa
open Go.RowKit Go.Gav Go.BigFrame

theorem ArgM.only {S T : Nat → Prop} {w w' : World} {ao : Option Addr} {l : List (Int × Int)} (h : ArgM w S ao l) (ho : Only T w w') (hT : ∀ g, g < w.heap.size → ¬ S g → ¬ T g) : ArgM w' S ao l := by
  intro h0
  obtain ⟨g, o, e, hS, hc⟩ := h h0
  have hlt : g < w.heap.size := World.block_lt_of_cell? w _ (hc 0 h0).1
  refine ⟨g, o, e, hS, fun i hi => ?_⟩
  exact ⟨ho.cell (hc i hi).1 (hT g hlt hS), ho.cell (hc i hi).2 (hT g hlt hS)⟩

theorem ArgM.apart {S T : Nat → Prop} {w : World} {ao : Option Addr} {l : List (Int × Int)} (h : ArgM w S ao l) (hT : ∀ g, g < w.heap.size → ¬ S g → ¬ T g) : ArgM w T ao l := by
  intro h0
  obtain ⟨g, o, e, hS, hc⟩ := h h0
  have hlt : g < w.heap.size := World.block_lt_of_cell? w _ (hc 0 h0).1
  exact ⟨g, o, e, hT g hlt hS, hc⟩

/-- A bag's own row as an argument. -/
theorem BagM.arg {w : World} {b : Nat} {v : Value} {xs : List (Int × Int)} (h : BagM w b v xs) {S : Nat → Prop} (hS : ∀ g, v.ownBlock = some g → ¬ S g) : ∃ ao cap, v = .slice ao xs.length cap ∧ ArgM w S ao xs := by
  obtain ⟨ao, cap, e, hr, ho⟩ := h.reads
  refine ⟨ao, cap, e, fun h0 => ?_⟩
  obtain ⟨g, ea, hc⟩ := hr h0
  refine ⟨g, 0, ea, hS g (ho g ea), fun i hi => ?_⟩
  have := hc i hi
  simpa using this

set_option maxRecDepth 100000 in
theorem newM (l : List (Int × Int)) (ao : Option Addr) (cap : Nat) (w : World) (hl : ArgM w (fun _ => False) ao l) (hn : l.length ≤ 1000) :
    Calls Try.prog 21 #[.func (.func 22) #[] #[], .slice ao l.length cap] w fun e w' => ∃ v', e = .returned (.pointer (some ⟨w.heap.size, 0, none⟩)) ∧ BagM w' w.heap.size v' (l.foldl insBM []) ∧ Only (fun _ => False) w w' ∧ ∀ k, v'.ownBlock = some k → w.heap.size < k := by
  have HL := Lib.hid hl
  clear hl
  have hen : ∀ w : World, (binOp BinOp.eql 50 (Value.func (Fn.func 22) #[] #[]) Value.nilFunc).run Try.prog w = .ok (.bool false) w := fun w => by kernel_rfl
  go_enter Try.func21, Try.ntmps21
  go_wp2_with (fail)
  have hB : BagM (w.alloc (Obj.cells #[Value.func (Fn.func 22) #[] #[], Value.slice none 0 0] 79)) w.heap.size (.slice none 0 0) [] := ⟨heap_alloc_new _ _, World.ownsRow_nil _ _ _ _, (by intro h; cases h), List.Pairwise.nil⟩
  refine (putM w.heap.size (.slice none 0 0) [] l ao cap _ hB ((HL.out.apart (T := fun k => k = w.heap.size ∨ (Value.slice none 0 0).ownBlock = some k) (fun g hg _ h => h.elim (fun h => by omega) (fun h => by cases h))).only ((Only.refl (fun _ => False) _).alloc _) (fun _ _ _ h => h)) (by simpa using hn)).mono ?_
  rintro _ w1 ⟨v1, rfl, hQ⟩
  go_wp2
  go_ret
  obtain ⟨hb, ho, hv⟩ := hQ
  refine ⟨v1, rfl, hb, ⟨ho.os, ho.tape, ho.output, ?_, fun k hk _ => ?_⟩, fun k hk => ?_⟩
  · have := ho.size
    simp at this
    omega
  · rw [ho.block k (by simp; omega) (fun h => h.elim (fun h => by omega) (fun h => by cases h))]
    exact Below.heap_alloc _ _ _ hk
  · rcases hv with hv | hv
    · rw [hv] at hk; cases hk
    · have := hv k hk
      simp at this
      omega

set_option maxRecDepth 100000 in
theorem lenM (b : Nat) (v : Value) (xs : List (Int × Int)) (w : World) (h : BagM w b v xs) : Calls Try.prog 34 #[.pointer (some ⟨b, 0, none⟩)] w fun e w' => e = .returned (.int .i64 xs.length) ∧ w' = w := by
  obtain ⟨ao, cap, rfl, _, _⟩ := h.reads
  obtain ⟨b0, b1⟩ := two_cells h.head
  clear h
  go_enter Try.func34, Try.ntmps34
  go_wp2
  go_ret
  exact ⟨rfl, rfl⟩

theorem len_nilM (w : World) : Calls Try.prog 34 #[.pointer none] w fun e w' => e = .returned (.int .i64 0) ∧ w' = w := by
  go_enter Try.func34, Try.ntmps34
  go_wp2
  go_ret
  exact ⟨rfl, rfl⟩

/-- How many are level. -/
def cntM (xs : List (Int × Int)) (x : Int × Int) : Nat := xs.countP fun y => decide (y.1 = x.1)

theorem cntM_of (xs : List (Int × Int)) (x : Int × Int) (lo hi : Nat) (h1 : LoP (fun i => (xs.getD i (0, 0)).1) xs.length (x.1) lo) (h2 : HiP (fun i => (xs.getD i (0, 0)).1) xs.length (x.1) hi) :
    lo ≤ hi ∧ hi - lo = cntM xs x := by
  obtain ⟨l1, l2, l3⟩ := h1
  obtain ⟨k1, k2, k3⟩ := h2
  have hle : lo ≤ hi := by
    rcases Nat.lt_or_ge hi lo with h | h
    · have a := l2 hi h
      have b := k3 hi (Nat.le_refl _) (by omega)
      omega
    · exact h
  refine ⟨hle, ?_⟩
  have e : xs = xs.take lo ++ ((xs.drop lo).take (hi - lo) ++ xs.drop hi) := by
    rw [show xs.drop hi = (xs.drop lo).drop (hi - lo) by rw [List.drop_drop]; congr 1; omega, List.take_append_drop, List.take_append_drop]
  have g : ∀ i, i < xs.length → xs.getD i (0, 0) = xs[i]! := fun i hi => by simp [List.getD_eq_getElem?_getD, hi]
  have c1 : (xs.take lo).countP (fun y => decide (y.1 = x.1)) = 0 := by
    rw [List.countP_eq_zero]
    intro y hy
    obtain ⟨i, hi', rfl⟩ := List.mem_iff_getElem.1 hy
    rw [List.length_take] at hi'
    have := l2 i (by omega)
    simp only [List.getD_eq_getElem?_getD, List.getElem?_eq_getElem (show i < xs.length by omega), Option.getD_some] at this
    rw [List.getElem_take]
    simp
    omega
  have c3 : (xs.drop hi).countP (fun y => decide (y.1 = x.1)) = 0 := by
    rw [List.countP_eq_zero]
    intro y hy
    obtain ⟨i, hi', rfl⟩ := List.mem_iff_getElem.1 hy
    rw [List.length_drop] at hi'
    have := k3 (hi + i) (by omega) (by omega)
    simp only [List.getD_eq_getElem?_getD, List.getElem?_eq_getElem (show hi + i < xs.length by omega), Option.getD_some] at this
    rw [List.getElem_drop]
    simp
    omega
  have c2 : ((xs.drop lo).take (hi - lo)).countP (fun y => decide (y.1 = x.1)) = hi - lo := by
    have hlen : ((xs.drop lo).take (hi - lo)).length = hi - lo := by rw [List.length_take, List.length_drop]; omega
    refine Eq.trans (List.countP_eq_length.2 ?_) hlen
    intro y hy
    obtain ⟨i, hi', rfl⟩ := List.mem_iff_getElem.1 hy
    rw [hlen] at hi'
    have a := l3 (lo + i) (by omega) (by omega)
    have b := k2 (lo + i) (by omega)
    simp only [List.getD_eq_getElem?_getD, List.getElem?_eq_getElem (show lo + i < xs.length by omega), Option.getD_some] at a b
    rw [List.getElem_take, List.getElem_drop]
    simp
    omega
  unfold cntM
  rw [e]
  rw [List.countP_append, List.countP_append, c1, c2, c3]
  omega

set_option maxRecDepth 100000 in
theorem countM (b : Nat) (v : Value) (xs : List (Int × Int)) (x : Int × Int) (w : World) (h : BagM w b v xs) (hn : xs.length ≤ 1000) :
    Calls Try.prog 27 #[.pointer (some ⟨b, 0, none⟩), .agg #[.int .i64 x.1, .int .i64 x.2]] w fun e w' => e = .returned (.int .i64 (cntM xs x)) ∧ Only (fun _ => False) w w' := by
  obtain ⟨ao, cap, rfl, hrd, _⟩ := h.reads
  have HA := Lib.hid ((Only.refl (fun _ => False) w).alloc (Obj.cells #[Value.int .i64 x.1, .int .i64 x.2] 49))
  obtain ⟨y0, y1⟩ := two_cells (heap_alloc_new w (Obj.cells #[Value.int .i64 x.1, .int .i64 x.2] 49))
  have HH := Lib.hid (And.intro h hrd)
  clear h hrd
  go_enter Try.func27, Try.ntmps27
  go_wp2_with (fail)
  refine (findM b ao xs.length cap (fun i => xs.getD i (0, 0)) x _ (HA.out.keep HH.out.1.head id) hn (HH.out.2.only HA.out (fun _ _ => id)) HH.out.1.up.get).mono ?_
  rintro _ w1 ⟨_, rfl, ⟨lo, hi, rfl, hlo, hhi⟩, o1⟩
  obtain ⟨hle, hc⟩ := cntM_of xs x lo hi hlo hhi
  have hw : wrap64 ((hi : Int) - (lo : Int)) = (cntM xs x : Nat) := by
    have h1 := hhi.1
    unfold wrap64
    rw [← hc]
    omega
  go_wp2
  go_ret
  refine ⟨?_, HA.out.trans o1 (fun _ _ h => h)⟩
  rw [← hw]
  rfl

theorem count_nilM (x : Int × Int) (w : World) : Calls Try.prog 27 #[.pointer none, .agg #[.int .i64 x.1, .int .i64 x.2]] w fun e w' => e = .returned (.int .i64 0) ∧ Only (fun _ => False) w w' := by
  go_enter Try.func27, Try.ntmps27
  go_wp2
  go_ret
  exact ⟨rfl, (Only.refl _ _).alloc _⟩

end Go.Proofs.Ytofachfbphinaaa
