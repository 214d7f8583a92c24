/- The contract of the iterator of While. -/
import Derived.Test.YtnhiohgcoifniaaS5
import Derived.Test.YtnhiohgcoifniaaK2
namespace Go.Proofs.Ytnhiohgcoifniaa
open Go.RowKit Go.Gav Go.BigFrame Go.Shelf
attribute [local go_sem] Oper.semAt_some

/-- Is it low? -/
def lowB (b : Int) : Bool := decide (b ≤ 4)

theorem low_is (x : Int) (b : Bool) (w : World) (h : lowB x = b) : Calls Try.prog 26 #[.int .i64 x] w fun e w' => e = .returned (.bool b) ∧ w' = w := by
  subst h
  unfold lowB
  go_enter Try.func26, Try.ntmps26
  go_wp2
  go_ret
  exact ⟨rfl, rfl⟩

theorem while_call (q : Option Addr) (f : FuncId) (w : World) :
    Calls Try.prog 27 #[.pointer q, .func (.func f) #[] #[]] w fun e w' => e = .returned (.func (.func 36) #[] #[.pointer (some ⟨w.heap.size, 0, none⟩), .pointer (some ⟨w.heap.size + 1, 0, none⟩)]) ∧ w' = (w.alloc (.cells #[.pointer q] 24)).alloc (.cells #[.func (.func f) #[] #[]] 36) := by
  go_enter Try.func27, Try.ntmps27
  go_wp2
  go_ret
  exact ⟨rfl, rfl⟩

/-- What a round is handed. -/
def encK (x : Int) : Array Value := #[.int .i64 x]

/-- The keys that are gone through. -/
def whileK (S : List En) : List Int := (S.takeWhile fun e => lowB e.2).map (·.1)

theorem tw_at (S : List En) (i : Nat) (h : i < S.length) (hall : ∀ e ∈ S.take i, lowB e.2 = true) :
    (lowB (atE S i).2 = true → ∃ hk : i < (whileK S).length, (whileK S)[i] = (atE S i).1) ∧ (lowB (atE S i).2 = false → (whileK S).length = i) := by
  induction S generalizing i with
  | nil => simp at h
  | cons e S ih =>
    cases i with
    | zero =>
      refine ⟨fun hl => ?_, fun hl => ?_⟩
      · have hl' : lowB e.2 = true := by simpa [atE] using hl
        refine ⟨by simp [whileK, List.takeWhile_cons, hl'], ?_⟩
        simp [whileK, List.takeWhile_cons, hl', atE]
      · have hl' : lowB e.2 = false := by simpa [atE] using hl
        simp [whileK, List.takeWhile_cons, hl']
    | succ i =>
      have he : lowB e.2 = true := hall e (by simp)
      have := ih i (by simpa using h) (fun e' h' => hall e' (by simp [h']))
      have ha : atE (e :: S) (i + 1) = atE S i := by simp [atE]
      have hw : whileK (e :: S) = e.1 :: whileK S := by simp [whileK, List.takeWhile_cons, he]
      rw [ha, hw]
      refine ⟨fun hl => ?_, fun hl => ?_⟩
      · obtain ⟨hk, hv⟩ := this.1 hl
        exact ⟨by simp; omega, by simpa using hv⟩
      · have := this.2 hl
        simp [this]

theorem tw_all (S : List En) (hall : ∀ e ∈ S, lowB e.2 = true) : (whileK S).length = S.length := by
  induction S with
  | nil => rfl
  | cons e S ih =>
    have he : lowB e.2 = true := hall e (by simp)
    have hw : whileK (e :: S) = e.1 :: whileK S := by simp [whileK, List.takeWhile_cons, he]
    rw [hw, List.length_cons, List.length_cons, ih (fun e' h' => hall e' (by simp [h']))]

set_option maxRecDepth 100000 in
set_option maxHeartbeats 4000000 in
theorem while_iter (bx sx hb lb mb : Nat) (S : List En) (w : World) (hbx : w.cell? ⟨bx, 0, none⟩ = some (.pointer (some ⟨hb, 0, none⟩))) (hso : w.cell? ⟨sx, 0, none⟩ = some (.func (.func 26) #[] #[])) (hq : HRep w hb lb mb S) :
    IterS Try.prog 36 #[.pointer (some ⟨bx, 0, none⟩), .pointer (some ⟨sx, 0, none⟩)] encK (whileK S) w (fun k => k = sx) := by
  intro l W hW R H
  have hlx : sx < W.heap.size := Nat.lt_of_lt_of_le (World.block_lt_of_cell? w _ hso) hW.size
  have oA : Only (fun _ => False) W (W.alloc (Obj.cells #[.func (.yield l) #[] #[]] 36)) := (Only.refl _ _).alloc _
  have hc := oA.cell (hW.cell hbx id) id
  have hs := oA.cell (hW.cell hso id) id
  have HB := Lib.hid ((hq.only hW id id id).only oA id id id)
  have HS := Lib.hid hs
  have HH := Lib.hid H
  have OA := Lib.hid oA
  have K1 := Lib.hid (heap_alloc_new W (Obj.cells #[.func (.yield l) #[] #[]] 36))
  clear hbx hso hq hW H oA hs
  show Calls Try.prog 36 #[.func (.yield l) #[] #[], .pointer (some ⟨bx, 0, none⟩), .pointer (some ⟨sx, 0, none⟩)] W _
  refine callsIn_wide.1 (callsIn_of_wp_marks (F := Fence.wide) (n := 0) Try.func36 rfl trivial ?_)
  simp only [Try.ntmps36, List.size_toArray, List.length_cons, List.length_nil, Nat.reduceAdd, Nat.reduceSub, Array.replicate_succ, Array.replicate_zero, List.push_toArray, List.append_toArray, List.nil_append, List.cons_append]
  refine wpIn_wide.2 ?_
  go_wp2_with (first | (go_at_call 25; refine (all_call _ _).mono ?_; rintro _ w3 ⟨rfl, hw3⟩; have HW3 := Lib.hid hw3; clear hw3))
  have oB : Only (fun _ => False) (W.alloc (Obj.cells #[.func (.yield l) #[] #[]] 36)) w3 := by rw [HW3.out]; exact (Only.refl _ _).alloc _
  have hs3 : w3.heap.size = W.heap.size + 2 := by rw [HW3.out]; simp
  have k2 : w3.cell? ⟨W.heap.size + 1, 0, none⟩ = some (.pointer (some ⟨hb, 0, none⟩)) := by
    have := heap_alloc_new (W.alloc (Obj.cells #[.func (.yield l) #[] #[]] 36)) (Obj.cells #[Value.pointer (some ⟨hb, 0, none⟩)] 24)
    rw [World.size_alloc] at this
    rw [HW3.out]; exact cell_of_one this
  have q1 := hall_iter (W.heap.size + 1) hb lb mb S w3 k2 (HB.out.only oB id id id)
  have K3 := Lib.hid (And.intro (oB.keep K1.out id) (oB.cell HS.out id))
  have HS3 := Lib.hid hs3
  have O3 := Lib.hid (OA.out.trans oB (fun _ _ h => h))
  clear oB hs3 k2 hc HB K1 OA HS
  refine wp_range (gf := 33) (lb := #[.pointer (some ⟨W.heap.size + 1, 0, none⟩)]) rfl (enters_of Try.func33 (by kernel_rfl) rfl) q1 (fun x => rfl) ?_
  intro W0 hW0 hs0
  have hwW : W.heap.size + 4 ≤ W0.heap.size := by have := HS3.out; omega
  obtain ⟨J, Jx, hJ0, hJs, hJxs, hY, hJd, hJxd⟩ := HH.out W0 (O3.out.trans hW0 (fun _ _ h => h))
  have HJs := Lib.hid hJs
  have HJxs := Lib.hid hJxs
  have HY := Lib.hid hY
  have HJd := Lib.hid hJd
  have HJxd := Lib.hid hJxd
  clear hJs hJxs hY hJd hJxd HH
  have hsp : ∀ k, Span w3.heap.size W0.heap.size k → Span W.heap.size W0.heap.size k := fun k hk => ⟨by have := hk.1; have := HS3.out; omega, hk.2⟩
  refine ⟨fun i Wr => i ≤ S.length ∧ (∀ e ∈ S.take i, lowB e.2 = true) ∧ J i Wr ∧ (Wr.heap[W.heap.size]? = some (.cells #[.func (.yield l) #[] #[]] 36 (0, 0)) ∧ Wr.cell? ⟨sx, 0, none⟩ = some (.func (.func 26) #[] #[])) ∧ W0.heap.size ≤ Wr.heap.size,
    fun c Wr => c = .ret ∧ (Jx Wr ∨ J (whileK S).length Wr), ?_, ?_, ?_, ?_, ?_, ?_⟩
  · exact ⟨Nat.zero_le _, fun e he => by simp at he, hJ0, ⟨hW0.keep K3.out.1 id, hW0.cell K3.out.2 id⟩, Nat.le_refl _⟩
  · rintro i W1 W2 ⟨h1, ha, hj, ⟨g1, g2⟩, h4⟩ ho
    have hz := HS3.out
    exact ⟨h1, ha, HJs.out _ _ _ hj (ho.mono hsp), ⟨ho.keep g1 (fun h => by have := h.1; omega), ho.cell g2 (fun (h : Span w3.heap.size W0.heap.size sx) => by have := h.1; omega)⟩, by have := ho.size; omega⟩
  · rintro c W1 W2 ⟨h1, hj⟩ ho
    refine ⟨h1, hj.imp (fun h => HJxs.out _ _ h (ho.mono hsp)) (fun h => HJs.out _ _ _ h (ho.mono hsp))⟩
  · rintro ll i hil Wr ⟨h1, ha, hj, ⟨g1, g2⟩, h4⟩
    have hz := HS3.out
    have HTW := Lib.hid (tw_at S i hil ha)
    have HA := Lib.hid ha
    obtain ⟨x, hx⟩ : ∃ x, x = atE S i := ⟨_, rfl⟩
    have hxi : S[i] = x := by rw [hx]; simp [atE, List.getD_eq_getElem?_getD, hil]
    have HXI := Lib.hid hxi
    rw [hxi]
    rw [← hx] at HTW
    simp only [encE]
    have HJ := Lib.hid hj
    have G := Lib.hid (And.intro g1 g2)
    clear hx hxi hj g1 g2 q1 hW0 hJ0 ha
    gi_wp2
    have oW : Only (fun _ => False) Wr (Wr.alloc (Obj.cells #[Value.int IntKind.i64 x.1, Value.int IntKind.i64 x.2] 40)) := (Only.refl _ _).alloc _
    refine ⟨oW.kept (by omega) (fun k hk => hk.elim), fun W2 ho => ?_⟩
    have hszs := ho.size
    have hszW := oW.size
    have kx : W2.heap[Wr.heap.size]? = some (.cells #[.int .i64 x.1, .int .i64 x.2] 40 (0, 0)) := ho.keep (heap_alloc_new Wr _) (fun h => by have := h.2; omega)
    have g1 := ho.keep (oW.keep G.out.1 id) (fun h => by have := h.1; omega)
    have c2 := ho.cell (oW.cell G.out.2 id) (fun (h : Span w3.heap.size W0.heap.size sx) => by have := h.1; omega)
    have c1 := cell_of_one g1
    obtain ⟨x0, x1⟩ := two_cells kx
    have HJ2 := Lib.hid (HJs.out _ _ _ (HJs.out _ _ _ HJ.out (oW.mono (fun _ h => h.elim))) (ho.mono hsp))
    have GG := Lib.hid (And.intro g1 c2)
    have HSZ := Lib.hid (show W0.heap.size ≤ W2.heap.size by omega)
    clear g1 ho HJ G hszs hz hsp kx oW hszW
    cases hev : lowB x.2 with
    | true =>
      obtain ⟨hk, hfx⟩ := HTW.out.1 hev
      obtain ⟨fn, tmps, assign, body, hy, hR⟩ := HY.out _ hk W2 W2 HJ2.out (Only.refl _ _)
      rw [hfx] at hy
      simp only [encK] at hy
      have HR := Lib.hid hR
      have HEVI := Lib.hid hev
      clear hR hev hk hfx
      gi_wp2_with (fail)
      refine ⟨trivial, rfl, ?_⟩
      refine (CallsIn.inRound ll (callsIn_wide.2 (low_is x.2 true W2 HEVI.out))).mono ?_
      rintro e W5 ⟨rfl, hw5⟩
      rw [hw5]
      clear hw5 W5
      gi_wp2_with (fail)
      refine ⟨rfl, (show RoundIn (Fence.wide.inRound ll) 0 Try.prog l fn tmps assign body W2 _ from HR.out).mono ?_⟩
      rintro e W3 (⟨rfl, hk3, hj3⟩ | ⟨rfl, hk3, hx3⟩)
      · have HK := Lib.hid hk3
        have HJ3 := Lib.hid hj3
        clear hk3 hj3 hy HR c1 c2
        gi_wp2
        have hz := HS3.out
        have hle : W0.heap.size ≤ W3.heap.size := by
          have e := HK.out (W0.heap.size - 1) (.inr (.inl ⟨by omega, by omega⟩))
          have hlt2 : W0.heap.size - 1 < W2.heap.size := by have := HSZ.out; omega
          rw [Array.getElem?_eq_getElem hlt2] at e
          have := (Array.getElem?_eq_some_iff.1 e).1
          omega
        refine ⟨fun k g1 g2 => HK.out k (.inr (.inl ⟨by omega, g2⟩)), by omega, ?_, HJ3.out, ⟨(HK.out _ (.inr (.inl ⟨Nat.le_refl _, by omega⟩))).trans GG.out.1, (World.cell?_of_block (HK.out _ (.inl rfl))).trans GG.out.2⟩, by omega⟩
        intro e he
        rw [List.take_succ_eq_append_getElem hil] at he
        rcases List.mem_append.1 he with he | he
        · exact HA.out e he
        · have he2 : e = S[i] := by simpa using he
          rw [he2, HXI.out]
          exact HEVI.out
      · have HK := Lib.hid hk3
        have HX3 := Lib.hid hx3
        clear hk3 hx3 hy HR c1 c2
        gi_wp2
        have hz := HS3.out
        exact ⟨fun k g1 g2 => HK.out k (.inr (.inl ⟨by omega, g2⟩)), rfl, .inl HX3.out⟩
    | false =>
      have HEVF := Lib.hid hev
      have hlen := HTW.out.2 hev
      have HJE := Lib.hid (show J (whileK S).length W2 by rw [hlen]; exact HJ2.out)
      clear hev hlen
      gi_wp2_with (fail)
      refine ⟨trivial, rfl, ?_⟩
      refine (CallsIn.inRound ll (callsIn_wide.2 (low_is x.2 false W2 HEVF.out))).mono ?_
      rintro e W5 ⟨rfl, hw5⟩
      rw [hw5]
      clear hw5 W5
      gi_wp2
      repeat (refine ⟨fun _ _ => trivial, ?_⟩; gi_wp2)
      exact ⟨Kept.refl _ _ _, rfl, .inr HJE.out⟩
  · rintro D Wr hD1 hD2 ⟨h1, ha, hj, ⟨g1, g2⟩, h4⟩ hK
    rw [List.take_length] at ha
    have hlen := tw_all S ha
    rw [← hlen] at hj
    have hz := HS3.out
    have ho : Only (Span W.heap.size W0.heap.size) Wr (Wr.putObj D (.deferred none)) := only_putObj (Only.refl _ _) _ _ (.inl ⟨by omega, hD2⟩)
    have HR := Lib.hid (HJd.out _ (HJs.out _ _ _ hj ho))
    have HKK := Lib.hid hK
    clear hj g1 g2 h4 hK q1 hW0 hJ0 ho ha hlen
    go_wp2
    refine ⟨by simp, .inl ⟨_, _, rfl, run_takeDeferred HKK.out, ?_⟩⟩
    exact ⟨_, results_none rfl _ _ _, ⟨_, rfl⟩, HR.out⟩
  · rintro c D Wr hD1 hD2 ⟨rfl, hj⟩ hK
    have hz := HS3.out
    have ho : Only (Span W.heap.size W0.heap.size) Wr (Wr.putObj D (.deferred none)) := only_putObj (Only.refl _ _) _ _ (.inl ⟨by omega, hD2⟩)
    have HR := Lib.hid (show R (Wr.putObj D (.deferred none)) from hj.elim (fun h => HJxd.out _ (HJxs.out _ _ h ho)) (fun h => HJd.out _ (HJs.out _ _ _ h ho)))
    have HKK := Lib.hid hK
    clear hj hK q1 hW0 hJ0 ho
    go_wp2
    refine ⟨by simp, .inl ⟨_, _, rfl, run_takeDeferred HKK.out, ?_⟩⟩
    exact ⟨_, results_none rfl _ _ _, ⟨_, rfl⟩, HR.out⟩

end Go.Proofs.Ytnhiohgcoifniaa
