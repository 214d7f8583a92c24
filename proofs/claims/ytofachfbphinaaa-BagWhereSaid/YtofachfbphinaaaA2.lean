/- The contract of the iterator of Where. -/
import Derived.Test.YtofachfbphinaaaA1
import Derived.Test.YtofachfbphinaaaRng2
import Derived.Test.YtofachfbphinaaaRnd
namespace Go.Proofs.Ytofachfbphinaaa
open Go.RowKit Go.Gav Go.BigFrame Go.Shelf
attribute [local go_sem] Oper.semAt_some

/-- Is a number even? -/
def evI (x : Int) : Bool := decide (x.tmod 2 = 0)

theorem even_at (x : Int) (w : World) : Calls Try.prog 17 #[.int .i64 x] w fun e w' => e = .returned (.bool (evI x)) ∧ w' = w := by
  by_cases h : x.tmod 2 = 0
  · have he : evI x = true := by simp [evI, h]
    rw [he]
    clear he
    go_enter Try.func17, Try.ntmps17
    go_wp2
    go_ret
    exact ⟨rfl, rfl⟩
  · have he : evI x = false := by simp [evI, h]
    rw [he]
    have hb : (x.tmod 2 == 0) = false := by simpa using h
    clear he h
    go_enter Try.func17, Try.ntmps17
    go_wp2
    go_ret
    exact ⟨rfl, rfl⟩

theorem even_is (x : Int) (b : Bool) (w : World) (h : evI x = b) : Calls Try.prog 17 #[.int .i64 x] w fun e w' => e = .returned (.bool b) ∧ w' = w := by
  subst h
  exact even_at x w

theorem where_call (q : Option Addr) (f : FuncId) (w : World) :
    Calls Try.prog 18 #[.pointer q, .func (.func f) #[] #[]] w fun e w' => e = .returned (.func (.func 41) #[] #[.pointer (some ⟨w.heap.size, 0, none⟩), .pointer (some ⟨w.heap.size + 1, 0, none⟩)]) ∧ w' = (w.alloc (.cells #[.pointer q] 25)).alloc (.cells #[.func (.func f) #[] #[]] 37) := by
  go_enter Try.func18, Try.ntmps18
  go_wp2
  go_ret
  exact ⟨rfl, rfl⟩

/-- What a round is handed. -/
def encX (x : Int) : Array Value := #[.int .i64 x]

theorem filter_at (xs : List Int) (i : Nat) (h : i < xs.length) (he : evI (xs.getD i 0) = true) :
    ∃ hk : (xs.take i).countP evI < (xs.filter evI).length, (xs.filter evI)[(xs.take i).countP evI] = xs.getD i 0 := by
  have hx : xs.getD i 0 = xs[i] := by simp [List.getD_eq_getElem?_getD, h]
  rw [hx] at he ⊢
  have hf : xs.filter evI = (xs.take i).filter evI ++ (xs[i] :: (xs.drop (i + 1)).filter evI) := by
    have e : xs = xs.take i ++ (xs[i] :: xs.drop (i + 1)) := by rw [← List.drop_eq_getElem_cons h, List.take_append_drop]
    have e2 : xs.filter evI = (xs.take i ++ (xs[i] :: xs.drop (i + 1))).filter evI := congrArg _ e
    rw [e2, List.filter_append, List.filter_cons_of_pos he]
  have hl : (xs.take i).countP evI = ((xs.take i).filter evI).length := List.countP_eq_length_filter
  have hk : (xs.take i).countP evI < (xs.filter evI).length := by rw [hf, hl, List.length_append, List.length_cons]; omega
  refine ⟨hk, ?_⟩
  have : (xs.filter evI)[(xs.take i).countP evI]? = some xs[i] := by
    rw [hf, hl, List.getElem?_append_right (Nat.le_refl _)]
    simp
  rw [List.getElem?_eq_getElem hk] at this
  exact Option.some.inj this

theorem ev_snoc (xs : List Int) (i : Nat) (h : i < xs.length) : (xs.take (i + 1)).countP evI = (xs.take i).countP evI + if evI (xs.getD i 0) = true then 1 else 0 := by
  rw [List.take_succ_eq_append_getElem h, List.countP_append]
  simp [List.getD_eq_getElem?_getD, h, List.countP_cons]

set_option maxRecDepth 100000 in
set_option maxHeartbeats 4000000 in
theorem where_iter (bx sx b : Nat) (v : Value) (xs : List Int) (w : World) (hbx : w.cell? ⟨bx, 0, none⟩ = some (.pointer (some ⟨b, 0, none⟩))) (hso : w.cell? ⟨sx, 0, none⟩ = some (.func (.func 17) #[] #[])) (hq : BagI w b v xs) (hn : xs.length ≤ 1000) :
    IterS Try.prog 41 #[.pointer (some ⟨bx, 0, none⟩), .pointer (some ⟨sx, 0, none⟩)] encX (xs.filter evI) w (fun k => k = sx) := by
  intro l W hW R H
  have hlx : sx < W.heap.size := Nat.lt_of_lt_of_le (World.block_lt_of_cell? w _ hso) hW.size
  have oA : Only (fun _ => False) W (W.alloc (Obj.cells #[.func (.yield l) #[] #[]] 37)) := (Only.refl _ _).alloc _
  have hc := oA.cell (hW.cell hbx id) id
  have hs := oA.cell (hW.cell hso id) id
  have HB := Lib.hid ((hq.only hW id (fun _ _ => id)).only oA id (fun _ _ => id))
  have HS := Lib.hid hs
  have HH := Lib.hid H
  have OA := Lib.hid oA
  have K1 := Lib.hid (heap_alloc_new W (Obj.cells #[.func (.yield l) #[] #[]] 37))
  clear hbx hso hq hW H oA hs
  show Calls Try.prog 41 #[.func (.yield l) #[] #[], .pointer (some ⟨bx, 0, none⟩), .pointer (some ⟨sx, 0, none⟩)] W _
  refine callsIn_wide.1 (callsIn_of_wp_marks (F := Fence.wide) (n := 0) Try.func41 rfl trivial ?_)
  simp only [Try.ntmps41, List.size_toArray, List.length_cons, List.length_nil, Nat.reduceAdd, Nat.reduceSub, Array.replicate_succ, Array.replicate_zero, List.push_toArray, List.append_toArray, List.nil_append, List.cons_append]
  refine wpIn_wide.2 ?_
  go_wp2_with (first | (go_at_call 15; refine (all_call _ _).mono ?_; rintro _ w3 ⟨rfl, hw3⟩; have HW3 := Lib.hid hw3; clear hw3))
  have oB : Only (fun _ => False) (W.alloc (Obj.cells #[.func (.yield l) #[] #[]] 37)) w3 := by rw [HW3.out]; exact (Only.refl _ _).alloc _
  have hs3 : w3.heap.size = W.heap.size + 2 := by rw [HW3.out]; simp
  have k2 : w3.cell? ⟨W.heap.size + 1, 0, none⟩ = some (.pointer (some ⟨b, 0, none⟩)) := by
    have := heap_alloc_new (W.alloc (Obj.cells #[.func (.yield l) #[] #[]] 37)) (Obj.cells #[Value.pointer (some ⟨b, 0, none⟩)] 25)
    rw [World.size_alloc] at this
    rw [HW3.out]; exact cell_of_one this
  have q1 := all_iter (W.heap.size + 1) b v xs w3 k2 (HB.out.only oB id (fun _ _ => id)) hn
  have K3 := Lib.hid (And.intro (oB.keep K1.out id) (oB.cell HS.out id))
  have HS3 := Lib.hid hs3
  have O3 := Lib.hid (OA.out.trans oB (fun _ _ h => h))
  clear oB hs3 k2 hc HB K1 OA HS
  refine wp_range (gf := 38) (lb := #[.pointer (some ⟨W.heap.size + 1, 0, none⟩)]) rfl (enters_of Try.func38 (by kernel_rfl) rfl) q1 (fun x => rfl) ?_
  intro W0 hW0 hs0
  have hwW : W.heap.size + 4 ≤ W0.heap.size := by have := HS3.out; omega
  obtain ⟨J, Jx, hJ0, hJs, hJxs, hY, hJd, hJxd⟩ := HH.out W0 (O3.out.trans hW0 (fun _ _ h => h))
  have HJs := Lib.hid hJs
  have HJxs := Lib.hid hJxs
  have HY := Lib.hid hY
  have HJd := Lib.hid hJd
  have HJxd := Lib.hid hJxd
  clear hJs hJxs hY hJd hJxd HH
  have hsp : ∀ k, Span w3.heap.size W0.heap.size k → Span W.heap.size W0.heap.size k := fun k hk => ⟨by have := hk.1; have := HS3.out; omega, hk.2⟩
  have HSP := Lib.hid hsp
  refine ⟨fun i Wr => i ≤ xs.length ∧ J ((xs.take i).countP evI) Wr ∧ (Wr.heap[W.heap.size]? = some (.cells #[.func (.yield l) #[] #[]] 37 (0, 0)) ∧ Wr.cell? ⟨sx, 0, none⟩ = some (.func (.func 17) #[] #[])) ∧ W0.heap.size ≤ Wr.heap.size,
    fun c Wr => c = .ret ∧ Jx Wr, ?_, ?_, ?_, ?_, ?_, ?_⟩
  · exact ⟨Nat.zero_le _, by simpa using hJ0, ⟨hW0.keep K3.out.1 id, hW0.cell K3.out.2 id⟩, Nat.le_refl _⟩
  · rintro i W1 W2 ⟨h1, hj, ⟨g1, g2⟩, h4⟩ ho
    have hz := HS3.out
    exact ⟨h1, HJs.out _ _ _ hj (ho.mono hsp), ⟨ho.keep g1 (fun h => by have := h.1; omega), ho.cell g2 (fun (h : Span w3.heap.size W0.heap.size sx) => by have := h.1; omega)⟩, by have := ho.size; omega⟩
  · rintro c W1 W2 ⟨h1, hj⟩ ho
    exact ⟨h1, HJxs.out _ _ hj (ho.mono hsp)⟩
  · rintro ll i hil Wr ⟨h1, hj, ⟨g1, g2⟩, h4⟩
    have hz := HS3.out
    rw [places_get]
    rw [places_length] at hil
    simp only [encP]
    have HFA := Lib.hid (filter_at xs i hil)
    have HEV := Lib.hid (ev_snoc xs i hil)
    obtain ⟨xi, hxi⟩ : ∃ xi, xi = xs.getD i 0 := ⟨_, rfl⟩
    rw [← hxi] at HFA HEV ⊢
    obtain ⟨kk, hkk⟩ : ∃ kk, kk = (xs.take i).countP evI := ⟨_, rfl⟩
    have HKK := Lib.hid hkk
    have HJ := Lib.hid hj
    have G := Lib.hid (And.intro g1 g2)
    clear hxi hj g1 g2 q1 hW0 hJ0 hkk
    gi_wp2
    refine ⟨Kept.refl _ _ _, fun W2 ho => ?_⟩
    have hszs := ho.size
    have g1 := ho.keep G.out.1 (fun h => by have := h.1; omega)
    have c2 := ho.cell G.out.2 (fun (h : Span w3.heap.size W0.heap.size sx) => by have := h.1; omega)
    have c1 := cell_of_one g1
    have HJ2 := Lib.hid (HJs.out _ _ _ HJ.out (ho.mono hsp))
    have GG := Lib.hid (And.intro g1 c2)
    have HSZ := Lib.hid (show W0.heap.size ≤ W2.heap.size by omega)
    clear g1 ho HJ G hszs hz hsp
    by_cases hev : evI xi = true
    · obtain ⟨hk, hfx⟩ := HFA.out hev
      obtain ⟨fn, tmps, assign, body, hy, hR⟩ := HY.out _ hk W2 W2 HJ2.out (Only.refl _ _)
      rw [hfx] at hy
      simp only [encX] at hy
      have HR := Lib.hid hR
      have HEVI := Lib.hid hev
      clear hR hev hk hfx
      gi_wp2_with (fail)
      refine ⟨trivial, rfl, ?_⟩
      refine (CallsIn.inRound ll (callsIn_wide.2 (even_is xi true W2 HEVI.out))).mono ?_
      rintro e W5 ⟨rfl, hw5⟩
      rw [hw5]
      clear hw5 W5
      gi_wp2_with (fail)
      refine ⟨rfl, (show RoundIn (Fence.wide.inRound ll) 0 Try.prog l fn tmps assign body W2 _ from HR.out).mono ?_⟩
      rintro e W3 (⟨rfl, hk3, hj3⟩ | ⟨rfl, hk3, hx3⟩)
      · have HK := Lib.hid hk3
        have HJ3 := Lib.hid hj3
        clear hk3 hj3 hy HR c1 c2
        gi_wp2
        have hz := HS3.out
        have h1 := World.block_lt_of_cell? W2 _ GG.out.2
        have hle : W0.heap.size ≤ W3.heap.size := by
          have e := HK.out (W0.heap.size - 1) (.inr (.inl ⟨by omega, by omega⟩))
          have hlt2 : W0.heap.size - 1 < W2.heap.size := by have := HSZ.out; omega
          rw [Array.getElem?_eq_getElem hlt2] at e
          have := (Array.getElem?_eq_some_iff.1 e).1
          omega
        refine ⟨fun k g1 g2 => HK.out k (.inr (.inl ⟨by omega, g2⟩)), by omega, ?_, ⟨(HK.out _ (.inr (.inl ⟨Nat.le_refl _, by omega⟩))).trans GG.out.1, (World.cell?_of_block (HK.out _ (.inl rfl))).trans GG.out.2⟩, by omega⟩
        rw [HEV.out, if_pos HEVI.out]
        exact HJ3.out
      · have HK := Lib.hid hk3
        have HX3 := Lib.hid hx3
        clear hk3 hx3 hy HR c1 c2
        gi_wp2
        have hz := HS3.out
        exact ⟨fun k g1 g2 => HK.out k (.inr (.inl ⟨by omega, g2⟩)), rfl, HX3.out⟩
    · have HEVI := Lib.hid hev
      have hev' : evI xi = false := by simpa using hev
      clear hev
      have HEVF := Lib.hid hev'
      clear hev'
      gi_wp2_with (fail)
      refine ⟨trivial, rfl, ?_⟩
      refine (CallsIn.inRound ll (callsIn_wide.2 (even_is xi false W2 HEVF.out))).mono ?_
      rintro e W5 ⟨rfl, hw5⟩
      rw [hw5]
      clear hw5 W5
      gi_wp2
      repeat (refine ⟨fun _ _ => trivial, ?_⟩; gi_wp2)
      refine ⟨Kept.refl _ _ _, by omega, ?_, GG.out, HSZ.out⟩
      rw [HEV.out, if_neg HEVI.out]
      exact HJ2.out
  · rintro D Wr hD1 hD2 ⟨h1, hj, ⟨g1, g2⟩, h4⟩ hK
    rw [places_length, List.take_length, List.countP_eq_length_filter] at hj
    have hz := HS3.out
    have ho : Only (Span W.heap.size W0.heap.size) Wr (Wr.putObj D (.deferred none)) := only_putObj (Only.refl _ _) _ _ (.inl ⟨by omega, hD2⟩)
    have HR := Lib.hid (HJd.out _ (HJs.out _ _ _ hj ho))
    have HKK := Lib.hid hK
    clear hj g1 g2 h4 hK q1 hW0 hJ0 ho
    go_wp2
    refine ⟨by simp, .inl ⟨_, _, rfl, run_takeDeferred HKK.out, ?_⟩⟩
    exact ⟨_, results_none rfl _ _ _, ⟨_, rfl⟩, HR.out⟩
  · rintro c D Wr hD1 hD2 ⟨rfl, hj⟩ hK
    have hz := HS3.out
    have ho : Only (Span W.heap.size W0.heap.size) Wr (Wr.putObj D (.deferred none)) := only_putObj (Only.refl _ _) _ _ (.inl ⟨by omega, hD2⟩)
    have HR := Lib.hid (HJxd.out _ (HJxs.out _ _ hj ho))
    have HKK := Lib.hid hK
    clear hj hK q1 hW0 hJ0 ho
    go_wp2
    refine ⟨by simp, .inl ⟨_, _, rfl, run_takeDeferred HKK.out, ?_⟩⟩
    exact ⟨_, results_none rfl _ _ _, ⟨_, rfl⟩, HR.out⟩

end Go.Proofs.Ytofachfbphinaaa
