/- The contract of Put. -/
import Derived.Test.YtofachfbphinaaaB2
import Derived.Test.YtofachfbphinaaaB3
import Derived.Test.YtofachfbphinaaaC1
import Derived.Test.YtofachfbphinaaaC2
namespace Go.Proofs.Ytofachfbphinaaa
open Go.RowKit Go.Gav Go.BigFrame

/-- A slice's cells read as l; they lie at no block of S. -/
def ArgI (w : World) (S : Nat → Prop) (ao : Option Addr) (l : List (Int)) : Prop :=
  0 < l.length → ∃ g o, ao = some ⟨g, o, none⟩ ∧ ¬ S g ∧ ∀ i, i < l.length → w.cell? ⟨g, o + i, none⟩ = some (.int .i64 (l.getD i 0))

theorem foldl_insI_length (l xs : List (Int)) : (l.foldl insBI xs).length = xs.length + l.length := by
  induction l generalizing xs with
  | nil => rfl
  | cons y ys ih => simp only [List.foldl_cons, ih, insBI_length, List.length_cons]; omega

theorem foldl_insI_take (l xs : List (Int)) (i : Nat) (h : i < l.length) : (l.take (i + 1)).foldl insBI xs = insBI ((l.take i).foldl insBI xs) (l.getD i 0) := by
  rw [List.take_succ_eq_append_getElem h, List.foldl_append]
  simp [List.getD_eq_getElem?_getD, h]

theorem flatI_ins (xs : List (Int)) (x : Int) (hi : Nat) (h : HiP (fun i => (xs.getD i 0)) xs.length (x) hi) :
    flatI (insBI xs x) = (flatI xs).take (hi * 1) ++ [.int .i64 x] ++ (flatI xs).drop (hi * 1) := by
  rw [insBI_at xs x hi h, flatI_take _ _ h.1, flatI_drop _ _ h.1, flatI_append, List.append_assoc]
  rfl

theorem own_new {w w1 : World} {e k n : Nat} {v : Value} {xs : List Value} {S : Nat → Prop} (h : w.ownsRow 0 e k v n xs) (ho : Only S w w1) : v.ownBlock ≠ some w1.heap.size := by
  intro hk
  have := (h.lt _ hk).2
  have := ho.size
  omega

theorem _root_.Go.Gav.Only.of_drew {S : Nat → Prop} {w w1 : World} (h : Only S w.drew w1) : Only S w w1 := ⟨h.os, h.tape, h.output, h.size, h.block⟩

theorem hp_setc {w : World} {p q : Addr} {v : Value} (h : w.cell? p = some v) (hne : p.block ≠ q.block) (u : Value) : (w.setCell q u).cell? p = some v :=
  (World.cell?_of_block (Below.heap_setCell _ _ _ _ hne)).trans h

theorem row_slice {w : World} {e k n : Nat} {v : Value} {xs : List Value} (h : w.ownsRow 0 e k v n xs) : ∃ ao cap, v = .slice ao n cap := by
  rcases h.2 with ⟨hv, hn⟩ | ⟨g, cap, cur, hv, _⟩
  · exact ⟨none, 0, by rw [hv, hn]⟩
  · exact ⟨_, cap, hv⟩

theorem hp_allocc {w : World} {p : Addr} {v : Value} (h : w.cell? p = some v) (o : Obj) : (w.alloc o).cell? p = some v :=
  (World.cell?_of_block (Below.heap_alloc _ _ _ (World.block_lt_of_cell? w p h))).trans h

/-- What Put leaves. -/
def PutQI (w w' : World) (b : Nat) (v v' : Value) (zs : List (Int)) : Prop :=
  BagI w' b v' zs ∧ Only (fun k => k = b ∨ v.ownBlock = some k) w w' ∧ (v'.ownBlock = v.ownBlock ∨ ∀ k, v'.ownBlock = some k → w.heap.size ≤ k)

/-- One more, at the place that was found. -/
theorem put_stepI {w w1 w2 : World} {b hi : Nat} {v v2 : Value} {ys : List (Int)} {x : Int} {nb : Obj} (hB : BagI w b v ys) (hhi : HiP (fun i => (ys.getD i 0)) ys.length (x) hi) (o1 : Only (fun _ => False) w w1)
    (hrow : w2.ownsRow 0 3 1 v2 (ys.length + 1) ((flatI ys).take (hi * 1) ++ [.int .i64 x] ++ (flatI ys).drop (hi * 1))) (o2 : Only (fun k => v.ownBlock = some k) (w1.alloc nb) w2)
    (hv2 : v2.ownBlock = v.ownBlock ∨ ∀ k, v2.ownBlock = some k → (w1.alloc nb).heap.size ≤ k) : PutQI w (w2.setCell ⟨b, 1, none⟩ v2) b v v2 (insBI ys x) := by
  have hs := o1.size
  have h12 : Only (fun k => v.ownBlock = some k) w w2 := ((o1.alloc nb).mono (fun _ h => h.elim)).trans o2 (fun _ _ h => h)
  have hbl := lt_of_block hB.head
  have hne : v2.ownBlock ≠ some b := by
    rcases hv2 with h | h
    · rw [h]; exact hB.apart
    · intro e
      have := h b e
      simp at this
      omega
  refine ⟨⟨?_, ?_, hne, insBI_up _ _ hB.up⟩, ?_, ?_⟩
  · have := h12.keep hB.head hB.apart
    rw [hp_same this]
    rfl
  · rw [insBI_length, flatI_ins _ _ _ hhi]
    exact row_only hrow ((Only.refl (fun k => k = b) _).setCell (.inl rfl) _) (fun g hg e => hne (by rw [hg, e]))
  · exact (h12.mono (fun _ h => .inr h)).setCell (.inl (.inl rfl)) _
  · rcases hv2 with h | h
    · exact .inl h
    · refine .inr fun k hk => ?_
      have := h k hk
      simp at this
      omega

theorem PutQI.refl {w : World} {b : Nat} {v : Value} {xs : List (Int)} (h : BagI w b v xs) : PutQI w w b v v xs := ⟨h, Only.refl _ _, .inl rfl⟩

theorem PutQI.trans {w w1 w2 : World} {b : Nat} {v v1 v2 : Value} {ys zs : List (Int)} (h1 : PutQI w w1 b v v1 ys) (h2 : PutQI w1 w2 b v1 v2 zs) : PutQI w w2 b v v2 zs := by
  obtain ⟨_, o1, n1⟩ := h1
  obtain ⟨hB, o2, n2⟩ := h2
  have hs := o1.size
  refine ⟨hB, ?_, ?_⟩
  · refine o1.trans o2 fun j hj h => ?_
    rcases h with h | h
    · exact .inl h
    · rcases n1 with n1 | n1
      · exact .inr (by rw [← n1]; exact h)
      · have := n1 j h; omega
  · rcases n2 with n2 | n2
    · rw [n2]; exact n1
    · exact .inr fun k hk => by have := n2 k hk; omega

set_option maxRecDepth 100000 in
set_option maxHeartbeats 2000000 in
theorem putI (b : Nat) (v : Value) (xs l : List (Int)) (ao : Option Addr) (cap : Nat) (w : World) (hB : BagI w b v xs) (hl : ArgI w (fun k => k = b ∨ v.ownBlock = some k) ao l) (hn : xs.length + l.length ≤ 1000) :
    Calls Try.prog 35 #[.pointer (some ⟨b, 0, none⟩), .slice ao l.length cap] w fun e w' => ∃ v', e = .returned (.tuple #[]) ∧ PutQI w w' b v v' (l.foldl insBI xs) := by
  have HB := Lib.hid hB
  have HL := Lib.hid hl
  clear hB hl
  go_enter Try.func35, Try.ntmps35
  go_wp2
  go_loopw [12] (fun vi wr => ∃ (i : Nat) (v' : Value), vi = .int .i64 i ∧ i ≤ l.length ∧ Hid (PutQI w wr b v v' ((l.take i).foldl insBI xs))) (fun vi _ => l.length - (intOf vi).toNat)
  case atStart => exact ⟨0, v, rfl, Nat.zero_le _, PutQI.refl HB.out⟩
  case round =>
    obtain ⟨i, v', rfl, hil, HQ⟩ := hrel
    by_cases hlt : i < l.length
    · obtain ⟨ys, hys⟩ : ∃ ys, ys = (l.take i).foldl insBI xs := ⟨_, rfl⟩
      have hyl : ys.length = xs.length + i := by rw [hys, foldl_insI_length, List.length_take, Nat.min_eq_left hil]
      rw [← hys] at HQ
      have hy1 : ys.length ≤ 999 := by omega
      obtain ⟨g, o, rfl, hS, hcell⟩ := HL.out (by omega)
      obtain ⟨x, hx⟩ : ∃ x, x = l.getD i 0 := ⟨_, rfl⟩
      have x0 := HQ.out.2.1.cell (hcell i hlt) hS
      rw [← hx] at x0
      have HY := Lib.hid (hys.symm ▸ hx ▸ foldl_insI_take l xs i hlt : (l.take (i + 1)).foldl insBI xs = insBI ys x)
      clear hcell hx hys hyl
      have HBr := HQ.out.1
      obtain ⟨ao', cap', rfl, hrd, hob⟩ := HBr.reads
      have hh := HBr.head
      obtain ⟨b0, b1⟩ := two_cells hh
      have HH := Lib.hid (And.intro HBr hrd)
      have HOB := Lib.hid hob
      clear HBr hrd hob hh
      go_wp2_with (first | (go_at_call 40; refine (findI b ao' ys.length cap' (fun i => ys.getD i 0) x _ HH.out.1.head (by omega) HH.out.2 HH.out.1.up.get).mono ?_; rintro _ w1 ⟨_, rfl, ⟨lo, hi, rfl, hlo, hhi⟩, o1⟩; have c1 := o1.cell b1 id) | (go_at_call 48; go_loud (refine (insI _ ys.length hi (flatI ys) _ (row_only HH.out.1.row (o1.alloc _) (fun _ _ h => h)) (by omega) hhi.1 _ [.int .i64 x] rfl (heap_alloc_new _ _) (own_new HH.out.1.row o1) (by intro u hu; simp at hu; subst hu; rfl) flatI_one).mono ?_; rintro _ w2 ⟨v2, rfl, hrow, o2, hv2⟩; obtain ⟨ao2, cap2, rfl⟩ := row_slice hrow; have c2 := o2.cell (hp_allocc c1 _) HH.out.1.apart; have f2 := free_of_row (j := 1) (o2.keep (hp_alloc (o1.keep HH.out.1.head id) _) HH.out.1.apart))))
      go_roundw
      all_goals (first | (exact ⟨i + 1, _, by go_num, by omega, by rw [HY.out]; exact HQ.out.trans (put_stepI HH.out.1 hhi o1 hrow o2 hv2)⟩) | (simp [intOf]; omega))
    · obtain rfl : i = l.length := by omega
      go_wp2
      exact bodyPost_end (results_none rfl _ _ _) rfl ⟨v', rfl, by have := HQ.out; rwa [List.take_length] at this⟩

end Go.Proofs.Ytofachfbphinaaa
