/- The contracts of the law's own functions items, alike, step. -/
import Derived.Test.YtflcdbefakjcbaaA1
import Derived.OwnWalkIn
import Derived.TacticsInMore
import Derived.LoopNIn
import Derived.LoopIn
import Derived.RangeFuncBox
import Derived.Maps.AppendAt
import Derived.Shelf.Abstract
import Derived.Shelf.RegionOpen
namespace Go.Proofs.Ytflcdbefakjcbaa
open Go.RowKit Go.Gav Go.BigFrame Go.Shelf
attribute [local go_sem] Oper.semAt_some

/-- A slice that owns ints, in blocks from base on. -/
def Owns (w : World) (base : Nat) (v : Value) (xs : List Int) : Prop := w.ownsRow base 3 1 v xs.length (xs.map (Value.int .i64))

set_option maxRecDepth 100000 in
set_option maxHeartbeats 1000000 in
theorem items_at (b rb room : Nat) (xs : List Int) (w : World) (hq : QRep w b rb room xs) :
    Calls Try.prog 23 #[.pointer (some ⟨b, 0, none⟩)] w fun e w' => ∃ v, e = .returned v ∧ Owns w' w.heap.size v xs ∧ Only (fun _ => False) w w' := by
  obtain ⟨i0, hi, hz0, hz1, hz2⟩ := info_parts info3
  have HQ := Lib.hid hq
  have hle := hq.le
  have hlt := hq.lt
  clear hq
  refine callsIn_wide.1 (callsIn_of_wp_marks (F := Fence.wide) (n := 0) Try.func23 rfl trivial ?_)
  simp only [Try.ntmps23, List.size_toArray, List.length_cons, List.length_nil, Nat.reduceAdd, Nat.reduceSub, Array.replicate_succ, Array.replicate_zero, List.push_toArray, List.append_toArray, List.nil_append, List.cons_append]
  refine wpIn_wide.2 ?_
  go_wp2_with (go_at_call 21; refine (all_call _ _).mono ?_; rintro e w' ⟨rfl, rfl⟩)
  have k1 : ((w.alloc (Obj.cells #[Value.slice none 0 0] 36)).alloc (Obj.cells #[Value.pointer (some ⟨b, 0, none⟩)] 24)).heap[w.heap.size]? = some (.cells #[.slice none 0 0] 36 (0, 0)) := hp_alloc (heap_alloc_new w _) _
  have k2 : ((w.alloc (Obj.cells #[Value.slice none 0 0] 36)).alloc (Obj.cells #[Value.pointer (some ⟨b, 0, none⟩)] 24)).cell? ⟨w.heap.size + 1, 0, none⟩ = some (.pointer (some ⟨b, 0, none⟩)) := by
    have := heap_alloc_new (w.alloc (Obj.cells #[Value.slice none 0 0] 36)) (Obj.cells #[Value.pointer (some ⟨b, 0, none⟩)] 24)
    rw [World.size_alloc] at this
    exact cell_of_one this
  have o1 : Only (fun _ => False) w ((w.alloc (Obj.cells #[Value.slice none 0 0] 36)).alloc (Obj.cells #[Value.pointer (some ⟨b, 0, none⟩)] 24)) := ((Only.refl _ _).alloc _).alloc _
  have hs1 : ((w.alloc (Obj.cells #[Value.slice none 0 0] 36)).alloc (Obj.cells #[Value.pointer (some ⟨b, 0, none⟩)] 24)).heap.size = w.heap.size + 2 := by simp
  have q1 := HQ.out.only o1 id id
  generalize (w.alloc (Obj.cells #[Value.slice none 0 0] 36)).alloc (Obj.cells #[Value.pointer (some ⟨b, 0, none⟩)] 24) = w1 at *
  have HS1 := Lib.hid hs1
  have O1 := Lib.hid o1
  clear hs1 o1
  refine wp_range (gf := 38) (lb := #[.pointer (some ⟨w.heap.size + 1, 0, none⟩)]) rfl (enters_of Try.func38 (by kernel_rfl) rfl) (all_iter_any (w.heap.size + 1) b rb room xs w1 k2 q1) (fun x => rfl) ?_
  intro W0 hW0 hs0
  have hwW : w.heap.size + 4 ≤ W0.heap.size := by have := HS1.out; omega
  refine ⟨fun i W => i ≤ xs.length ∧ ∃ v, W.heap[w.heap.size]? = some (.cells #[v] 36 (0, 0)) ∧ W.ownsRow W0.heap.size 3 1 v i ((xs.take i).map (Value.int .i64)) ∧ W0.heap.size ≤ W.heap.size ∧ Only (fun _ => False) w W,
    fun _ _ => False, ?_, ?_, fun _ _ _ h _ => h, ?_, ?_, fun _ _ _ _ _ h _ => h.elim⟩
  · exact ⟨Nat.zero_le _, _, hW0.keep k1 id, by simpa using World.ownsRow_nil W0 W0.heap.size 3 1, Nat.le_refl _, O1.out.trans hW0 (fun _ _ h => h)⟩
  · rintro i W1 W2 ⟨h1, v, h2, h3, h4, h5⟩ ho
    have hz := HS1.out
    refine ⟨h1, v, ho.keep h2 (fun h => by have := h.1; omega), ?_, by have := ho.size; omega, h5.trans ho (fun j hj h => by have := h.1; omega)⟩
    exact ownsRow_only h3 ho (fun k hk hh => by have := hh.2; omega)
  · rintro l i hil W ⟨h1, v, h2, h3, h4, h5⟩
    rw [places_get]
    rw [places_length] at hil
    simp only [encP]
    obtain ⟨xi, hxi⟩ : ∃ xi, xi = xs.getD i 0 := ⟨_, rfl⟩
    rw [← hxi]
    have HXI := Lib.hid hxi
    have H2 := Lib.hid h2
    have H3 := Lib.hid h3
    have H5 := Lib.hid h5
    clear hxi h2 h3 h5 k1 k2 q1
    gi_wp2
    refine ⟨Kept.refl _ _ _, fun W2 ho => ?_⟩
    have hz := HS1.out
    have hszs := ho.size
    have h2 := ho.keep H2.out (fun h => by have := h.1; omega)
    have h3 := ownsRow_only H3.out ho (fun k hk hh => by have := hh.2; omega)
    have h5 : Only (fun _ => False) w W2 := H5.out.trans ho (fun j hj h => by have := h.1; omega)
    have c2 := cell_of_one h2
    have f2 := free_of_one h2
    have H2' := Lib.hid h2
    have H3' := Lib.hid h3
    have H5' := Lib.hid h5
    have HB : ∀ w3, (W2.alloc (.cells #[.int .i64 xi] 3)).grownBy w3 v.ownBlock → w3.heap[w.heap.size]? = some (.cells #[v] 36 (0, 0)) := fun w3 hg => by
      refine (hg.block _ (by simp; omega) (fun e => ?_)).trans (hp_alloc h2 _)
      have := (h3.lt _ e.symm).1
      omega
    have HBH := Lib.hid HB
    clear h2 h3 h5 H2 H3 H5 ho hz hW0 HB
    gi_wp2_with (gi_at_builtin; (refine wpListIn_append_own _ rfl (.tmp 10) (.tmp 12) 36 rfl W0.heap.size 3 i0 (.int .i64 0) 1 8 Try.underlying36 hi hz0 hz1 hz2 rfl (by decide) _ _ _ rfl (H3'.out.alloc _) ⟨W2.heap.size, 0, none⟩ 1 1 [.int .i64 xi] rfl rfl (cell_one_new _ _ _) (by simp [Value.oneCell']) (by unfold maxLen; omega) (by omega) (by simp; omega) ?_); intro v' w3 hown' hgrow _; obtain ⟨g3, cap3, rfl⟩ := ownsRow_succ hown'; have c3 := cell_of_one (HBH.out _ hgrow); have f3 := free_of_one (HBH.out _ hgrow))
    have hgr := hgrow
    have how := hown'
    have hrows : ∀ k, v.ownBlock = some k → (k = w.heap.size ∨ W0.heap.size ≤ k) ∨ W2.heap.size ≤ k := fun k hk => .inl (.inr (H3'.out.lt k hk).1)
    have ho4 : Only (fun k => k = w.heap.size ∨ W0.heap.size ≤ k) W2 (w3.setCell ⟨w.heap.size, 0, none⟩ (.slice (some ⟨g3, 0, none⟩) (i + 1) cap3)) :=
      (((Only.refl _ W2).alloc _).grown hgr hrows).setCell (p := ⟨w.heap.size, 0, none⟩) (.inl (.inl rfl)) _
    have hz := HS1.out
    refine ⟨ho4.kept (by omega) (fun k hk => by omega), by omega, _, one_setCell (HBH.out _ hgr), ?_, ?_, ?_⟩
    · have e : (xs.take (i + 1)).map (Value.int .i64) = (xs.take i).map (Value.int .i64) ++ [.int .i64 xi] := by
        rw [HXI.out]; exact take_ints xs i hil
      rw [e]
      exact ownsRow_setCell_below how (by show w.heap.size < W0.heap.size; omega) _
    · have := ho4.size; omega
    · exact H5'.out.trans ho4 (fun j hj h => by omega)
  · rintro D W hD1 hD2 ⟨h1, v, h2, h3, h4, h5⟩ hK
    have c2 := cell_of_one h2
    have H3 := Lib.hid h3
    have H5 := Lib.hid h5
    have HK := Lib.hid hK
    have hz := HS1.out
    clear h2 h3 h5 hK k1 k2 q1 hW0
    go_wp2
    refine ⟨by simp, .inl ⟨_, _, rfl, run_takeDeferred HK.out, ?_⟩⟩
    have ho : Only (fun k => k = D) W (W.putObj D (.deferred none)) := only_putObj (Only.refl _ _) _ _ (.inl rfl)
    refine ⟨_, results_tmp rfl _ _ _, v, rfl, ?_, H5.out.trans ho (fun j hj h => by omega)⟩
    have e := H3.out
    rw [places_length] at e
    rw [List.take_length] at e
    have e2 := ownsRow_only e ho (fun k hk hh => by omega)
    refine ⟨e2.1, ?_⟩
    rcases e2.2 with hn | ⟨g, cap, cur, hv, hb, hgg, rest⟩
    · exact .inl hn
    · exact .inr ⟨g, cap, cur, hv, by omega, hgg, rest⟩

/-- A slice that reads as ints. -/
def Reads (w : World) (a : Option Addr) (n : Nat) (xs : List Int) : Prop :=
  n = xs.length ∧ (0 < n → ∃ g, a = some ⟨g, 0, none⟩ ∧ ∀ i, i < n → w.cell? ⟨g, i, none⟩ = some (.int .i64 (xs.getD i 0)))

theorem Owns.reads {w : World} {base : Nat} {v : Value} {xs : List Int} (h : Owns w base v xs) : ∃ a cap, v = .slice a xs.length cap ∧ Reads w a xs.length xs := by
  rcases h.2 with ⟨rfl, h0⟩ | ⟨g, cap, cur, rfl, hb, hgg, hn, hc, hs, ht⟩
  · exact ⟨none, 0, by rw [h0], rfl, fun h => by omega⟩
  · refine ⟨_, cap, rfl, rfl, fun _ => ⟨g, rfl, fun i hi => ?_⟩⟩
    rw [cell_of_row w g i _ _ _ hgg]
    have : (cur.toList.take (xs.length * 1))[i]? = (xs.map (Value.int .i64))[i]? := by rw [ht]
    rw [List.getElem?_take, if_pos (by omega)] at this
    rw [← Array.getElem?_toList, this]
    simp [hi]

theorem Reads.only {S : Nat → Prop} {w w' : World} {a : Option Addr} {n : Nat} {xs : List Int} (h : Reads w a n xs) (ho : Only S w w') (hS : ∀ k, k < w.heap.size → ¬ S k) : Reads w' a n xs :=
  ⟨h.1, fun h0 => let ⟨g, e, hc⟩ := h.2 h0; ⟨g, e, fun i hi => ho.cell (hc i hi) (hS g (World.block_lt_of_cell? w _ (hc i hi)))⟩⟩

theorem alike_ne (a a' : Option Addr) (n n' c c' : Nat) (w : World) (h : n ≠ n') :
    Calls Try.prog 24 #[.slice a n c, .slice a' n' c'] w fun e w' => e = .returned (.bool false) ∧ Only (fun _ => False) w w' := by
  have hne : ((n : Int) != (n' : Int)) = true := by simp; omega
  go_enter Try.func24, Try.ntmps24
  go_wp2
  go_ret
  exact ⟨rfl, Only.refl _ _⟩

set_option maxHeartbeats 400000 in
theorem alike_eq (a a' : Option Addr) (n c c' : Nat) (xs : List Int) (w : World) (h : Reads w a n xs) (h' : Reads w a' n xs) (hn : n ≤ 1048576) :
    Calls Try.prog 24 #[.slice a n c, .slice a' n c'] w fun e w' => e = .returned (.bool true) ∧ Only (fun _ => False) w w' := by
  have hne : ((n : Int) != (n : Int)) = false := by simp
  have H := Lib.hid h
  have H' := Lib.hid h'
  clear h h'
  go_enter Try.func24, Try.ntmps24
  go_wp2
  go_loopw [5] (fun vi wr => ∃ i : Nat, i ≤ n ∧ vi = .int .i64 i ∧ Only (fun _ => False) w wr) (fun vi _ => n - (intOf vi).toNat)
  case atStart => exact ⟨0, Nat.zero_le _, rfl, Only.refl _ _⟩
  case round =>
    obtain ⟨i, hi, rfl, ho⟩ := hrel
    have HO := Lib.hid ho
    clear ho
    by_cases hlt : i < n
    · obtain ⟨g, rfl, hc⟩ := H.out.2 (by omega)
      obtain ⟨g', rfl, hc'⟩ := H'.out.2 (by omega)
      have e1 := HO.out.cell (hc i hlt) id
      have e2 := HO.out.cell (hc' i hlt) id
      obtain ⟨x, hx⟩ : ∃ x, x = xs.getD i 0 := ⟨_, rfl⟩
      rw [← hx] at e1 e2
      clear hc hc' hx
      have hxx : (x != x) = false := by simp
      go_wp2
      go_quiet (fail)
      go_wp2
      go_roundw
      case rel => exact ⟨i + 1, by omega, by go_num, HO.out.drewN _⟩
      case measure => simp [intOf]; omega
    · go_wp2
      go_ret
      exact ⟨rfl, HO.out⟩

/-- What a Push, or a Pop, makes of a queue's items. -/
def stepL (room : Nat) (xs : List Int) (d x : Int) : List Int := if d % 5 < 2 then (if xs.length < room then xs ++ [x] else xs) else xs.tail

theorem step_at (b rb room : Nat) (xs : List Int) (d x : Int) (w : World) (hq : QRep w b rb room xs) (hd : 0 ≤ d) (hd2 : d ≤ 255) :
    Calls Try.prog 22 #[.pointer (some ⟨b, 0, none⟩), .agg #[.int .u8 d, .int .i64 x]] w fun e w' => e = .returned (.tuple #[]) ∧
      ∃ rb', QRep w' b rb' room (stepL room xs d x) ∧ (rb' = rb ∨ w.heap.size ≤ rb') ∧ Only (fun k => k = b ∨ k = rb) w w' := by
  have HQ := Lib.hid hq
  clear hq
  have q1 : ∀ o, QRep (w.alloc o) b rb room xs := fun o => HQ.out.only ((Only.refl (fun _ => False) w).alloc o) id id
  have QQ := Lib.hid q1
  have o1 : ∀ o, Only (fun k => k = b ∨ k = rb) w (w.alloc o) := fun o => (Only.refl _ w).alloc o
  have OO := Lib.hid o1
  clear q1 o1
  by_cases h : d % 5 < 2
  · by_cases hf : xs.length < room
    · have hs : stepL room xs d x = xs ++ [x] := by rw [stepL, if_pos h, if_pos hf]
      have HS := Lib.hid hs
      clear hs
      go_enter Try.func22, Try.ntmps22
      go_wp2_with (fail)
      refine (q_push b rb room xs x _ (QQ.out _) hf).mono ?_
      rintro e w2 ⟨rfl, rb', q2, h2, o2⟩
      have H2 := Lib.hid (And.intro q2 (And.intro h2 o2))
      have h2' : rb' = rb ∨ w.heap.size ≤ rb' := by
        rcases h2 with h2 | h2
        · exact .inl h2
        · right; simp at h2; omega
      have HH := Lib.hid h2'
      clear q2 h2 o2 h2'
      go_wp2
      go_end0
      exact ⟨rfl, rb', by rw [HS.out]; exact H2.out.1, HH.out, (OO.out _).trans H2.out.2.2 (fun _ _ h => h)⟩
    · have hs : stepL room xs d x = xs := by rw [stepL, if_pos h, if_neg hf]
      have HS := Lib.hid hs
      clear hs
      go_enter Try.func22, Try.ntmps22
      go_wp2_with (fail)
      refine (q_push_full b rb room xs x _ (QQ.out _) (by omega)).mono ?_
      rintro e w2 ⟨rfl, o2⟩
      have q2 := (QQ.out _).only o2 id id
      have H2 := Lib.hid (And.intro q2 o2)
      clear q2 o2
      go_wp2
      go_end0
      exact ⟨rfl, rb, by rw [HS.out]; exact H2.out.1, .inl rfl, (OO.out _).trans H2.out.2 (fun _ _ h => h.elim)⟩
  · have hs : stepL room xs d x = xs.tail := by rw [stepL, if_neg h]
    have HS := Lib.hid hs
    clear hs
    cases xs with
    | nil =>
      go_enter Try.func22, Try.ntmps22
      go_wp2_with (fail)
      refine (q_pop_none b rb room _ (QQ.out _)).mono ?_
      rintro e w2 ⟨rfl, rfl⟩
      go_wp2
      go_end0
      exact ⟨rfl, rb, by rw [HS.out]; exact QQ.out _, .inl rfl, OO.out _⟩
    | cons y ys =>
      go_enter Try.func22, Try.ntmps22
      go_wp2_with (fail)
      refine (q_pop b rb room y ys _ (QQ.out _)).mono ?_
      rintro e w2 ⟨rfl, q2, o2⟩
      have H2 := Lib.hid (And.intro q2 o2)
      clear q2 o2
      go_wp2
      go_end0
      exact ⟨rfl, rb, by rw [HS.out]; exact H2.out.1, .inl rfl, (OO.out _).trans H2.out.2 (fun _ _ h => h)⟩

end Go.Proofs.Ytflcdbefakjcbaa
