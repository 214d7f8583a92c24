/- The contract of the document's Set. -/
import Derived.Test.YtnhiohgcoifniaaR2
namespace Go.Proofs.Ytnhiohgcoifniaa
open Go.RowKit Go.Gav Go.BigFrame

/-- Is one of them greater than x? -/
def someGt (x : En) (A : List En) : Bool := A.any fun y => decide (lessE x y)
/-- What has been put out behind the first ones. -/
def outL (x : En) (A : List En) : List En := if someGt x A then insE x A else A

theorem someGt_snoc (x : En) (A : List En) (y : En) : someGt x (A ++ [y]) = (someGt x A || decide (lessE x y)) := by simp [someGt]
theorem ins_done (x y : En) : ∀ A, someGt x A = true → insE x (A ++ [y]) = insE x A ++ [y]
  | [], h => by simp [someGt] at h
  | a :: A, h => by
    show (if lessE x a then x :: a :: (A ++ [y]) else a :: insE x (A ++ [y])) = (if lessE x a then x :: a :: A else a :: insE x A) ++ [y]
    by_cases ha : lessE x a
    · rw [if_pos ha, if_pos ha]; rfl
    · rw [if_neg ha, if_neg ha, ins_done x y A (by simpa [someGt, ha] using h)]; rfl
theorem ins_end (x : En) : ∀ A, someGt x A = false → insE x A = A ++ [x]
  | [], _ => rfl
  | a :: A, h => by
    have ha : ¬ lessE x a := fun ha => by simp [someGt, ha] at h
    show (if lessE x a then x :: a :: A else a :: insE x A) = a :: (A ++ [x])
    rw [if_neg ha, ins_end x A (by simpa [someGt, ha] using h)]
theorem ins_here (x y : En) (hy : lessE x y) : ∀ A, someGt x A = false → insE x (A ++ [y]) = A ++ [x] ++ [y]
  | [], _ => by show (if lessE x y then [x, y] else [y, x]) = [x, y]; rw [if_pos hy]
  | a :: A, h => by
    have ha : ¬ lessE x a := fun ha => by simp [someGt, ha] at h
    show (if lessE x a then x :: a :: (A ++ [y]) else a :: insE x (A ++ [y])) = a :: (A ++ [x] ++ [y])
    rw [if_neg ha, ins_here x y hy A (by simpa [someGt, ha] using h)]

theorem outL_done (x y : En) (A : List En) (h : someGt x A = true) : outL x (A ++ [y]) = outL x A ++ [y] := by
  unfold outL; rw [someGt_snoc, h, Bool.true_or, if_pos rfl, if_pos rfl, ins_done x y A h]
theorem outL_here (x y : En) (A : List En) (h : someGt x A = false) (hy : lessE x y) : outL x (A ++ [y]) = outL x A ++ [x] ++ [y] := by
  unfold outL; rw [someGt_snoc, h]; simp only [hy, decide_true, Bool.or_true, if_true]; rw [ins_here x y hy A h]; simp
theorem outL_not (x y : En) (A : List En) (h : someGt x A = false) (hy : ¬ lessE x y) : outL x (A ++ [y]) = outL x A ++ [y] := by
  unfold outL; rw [someGt_snoc, h]; simp [hy]
theorem outL_length (x : En) (A : List En) : (outL x A).length ≤ A.length + 1 := by
  unfold outL; split
  · rw [(insE_perm x A).length_eq]; simp
  · omega

theorem readE_base {w : World} {base base' : Nat} {v : Value} {S : List En} (h : ReadE w base v S) (hb : base' ≤ base) : ReadE w base' v S := by
  obtain ⟨ao, cap, e, hc, h0⟩ := h
  refine ⟨ao, cap, e, hc, fun hp => ?_⟩
  obtain ⟨rb, off, e2, hb2, hr⟩ := h0 hp
  exact ⟨rb, off, e2, by omega, hr⟩

set_option maxRecDepth 100000 in
set_option maxHeartbeats 4000000 in
theorem ref_set (v : Value) (base : Nat) (S : List En) (k b : Int) (w : World) (h : ReadE w base v S) (hs : S.length ≤ 900) :
    Calls Try.prog 12 #[v, .agg #[.int .i64 k, .int .i64 b]] w fun e w' => ∃ v', e = .returned v' ∧ ReadE w' w.heap.size v' (setS S (k, b)) ∧ Only (fun _ => False) w w' := by
  obtain ⟨i0, hi0, hz0, hz1, hz2⟩ := info_parts info33
  have HV := Lib.hid (h.only ((Only.refl (fun _ => False) w).alloc (.cells #[.int .i64 k, .int .i64 b] 33)) (fun _ _ _ => id))
  clear h
  go_enter Try.func12, Try.ntmps12
  go_wp2_with (fail)
  refine (ref_del v base S k _ HV.out (by omega)).mono ?_
  rintro e w2 ⟨v2, rfl, h2, o2⟩
  have hl2 := delS_length S k
  obtain ⟨S2, hS2⟩ : ∃ S2, S2 = delS S k := ⟨_, rfl⟩
  rw [← hS2] at h2 hl2
  have HS2 := Lib.hid hS2
  have kb : w2.heap[w.heap.size]? = some (.cells #[.int .i64 k, .int .i64 b] 33 (0, 0)) := o2.keep (heap_alloc_new w _) id
  have KB := Lib.hid kb
  have O2 := Lib.hid (((Only.refl (fun _ => False) w).alloc (.cells #[.int .i64 k, .int .i64 b] 33)).trans o2 (fun _ _ h => h))
  obtain ⟨ao, cap, rfl, hc, h0⟩ := h2
  obtain ⟨n, hn⟩ : ∃ n, n = S2.length := ⟨_, rfl⟩
  rw [← hn] at hl2 h0 ⊢
  have HN := Lib.hid hn
  have H0 := Lib.hid h0
  clear hc h0 hn o2 kb hS2 HV
  go_wp2
  go_loopw [5, 6, 7] (fun vo vd vi wr => ∃ i : Nat, i ≤ n ∧ vi = .int .i64 i ∧ vd = .bool (someGt (k, b) (S2.take i)) ∧ wr.ownsRow w2.heap.size 33 2 vo (outL (k, b) (S2.take i)).length (flat (outL (k, b) (S2.take i))) ∧ Only (fun _ => False) w2 wr) (fun _ _ vi _ => n - (intOf vi).toNat)
  case atStart => exact ⟨0, Nat.zero_le _, rfl, by simp [someGt], by simpa [outL, someGt, flat] using World.ownsRow_nil w2 w2.heap.size 33 2, Only.refl _ _⟩
  case round =>
    obtain ⟨i, hi, rfl, rfl, hown, ho⟩ := hrel
    have HOWN := Lib.hid hown
    have HO := Lib.hid ho
    have hsz := ho.size
    have hsz2 := O2.out.size
    have hol := outL_length (k, b) (S2.take i)
    rw [List.length_take] at hol
    obtain ⟨m, hm⟩ : ∃ m, m = (outL (k, b) (S2.take i)).length := ⟨_, rfl⟩
    rw [← hm] at HOWN hol
    have HM := Lib.hid hm
    obtain ⟨c0, c1⟩ := two_cells (ho.keep KB.out id)
    clear hown ho hm
    by_cases hlt : i < n
    · obtain ⟨rb, off, rfl, -, hr⟩ := H0.out (by omega)
      obtain ⟨d0, d1⟩ := hr i hlt
      have e0 := HO.out.cell d0 id
      have e1 := HO.out.cell d1 id
      have HD := Lib.hid (And.intro d0 d1)
      clear hr d0 d1
      have hts := take_snoc S2 i (by rw [← HN.out]; exact hlt)
      obtain ⟨⟨x, y⟩, hx⟩ : ∃ x, x = atE S2 i := ⟨_, rfl⟩
      rw [← hx] at e0 e1 hts HD
      simp only at e0 e1
      have HTS := Lib.hid hts
      clear hts hx
      cases hd : someGt (k, b) (S2.take i) with
      | true =>
        have hs2 : someGt (k, b) (S2.take (i + 1)) = true := by rw [HTS.out, someGt_snoc, hd]; rfl
        have ho2 : outL (k, b) (S2.take (i + 1)) = outL (k, b) (S2.take i) ++ [(x, y)] := by rw [HTS.out]; exact outL_done _ _ _ hd
        have HS := Lib.hid hs2
        have HOL := Lib.hid ho2
        clear hd hs2 ho2
        go_wp2
        (
          refine wp_region_mixed [] [0, 1, 2, 3, 4, 5, 6, 7] 8 [9] (by kernel_rfl) (by kernel_rfl) (fun _ _ _ _ h => h) ?_
          simp only [pick, consO, List.getElem?_toArray, List.getElem?_cons_succ, List.getElem?_cons_zero, movesOf]
          repeat (go_big_quiet_step (fail))
          refine wpQuiet_nil ?_)
        rintro _ ⟨nq, rfl⟩
        (
          obtain ⟨wq, hwq⟩ : ∃ wq, wq = wr.drewN nq := ⟨_, rfl⟩
          have HOWN' : Hid (wq.ownsRow w2.heap.size 33 2 u5 m (flat (outL (k, b) (S2.take i)))) := by rw [hwq]; exact HOWN
          have HO' : Hid (Only (fun _ => False) w2 wq) := by rw [hwq]; exact HO.out.drewN nq
          have hszq : w2.heap.size ≤ wq.heap.size := by rw [hwq]; exact hsz
          have g0 : wq.cell? ⟨w.heap.size, 0, none⟩ = some (.int .i64 k) := by rw [hwq]; exact c0
          have g1 : wq.cell? ⟨w.heap.size, 1, none⟩ = some (.int .i64 b) := by rw [hwq]; exact c1
          have q0 : wq.cell? ⟨rb, off + i * 2, none⟩ = some (.int .i64 x) := by rw [hwq]; exact e0
          have q1 : wq.cell? ⟨rb, off + i * 2 + 1, none⟩ = some (.int .i64 y) := by rw [hwq]; exact e1
          rw [← hwq]
          clear hwq c0 c1 e0 e1 HOWN HO
          have HOWN := HOWN'
          have HO := HO'
          clear HOWN' HO')
        go_wp2_with ((at_builtin; refine wpList_append_own _ rfl (.tmp 35) (.tmp 40) 27 rfl w2.heap.size 33 i0 (.agg #[.int .i64 0, .int .i64 0]) 2 16 Try.underlying27 hi0 hz0 hz1 hz2 rfl (by decide) _ m _ rfl ((HOWN.out.alloc _)) ⟨wq.heap.size, 0, none⟩ 1 1 [.int .i64 x, .int .i64 y] rfl rfl (new_two _ _ _ _) (by simp [Value.oneCell']) (by unfold maxLen; omega) (by omega) (by simp; omega) ?_; intro v3 w3 own3 hgr3 _))
        have o3 : Only (fun _ => False) w2 w3 := (HO.out.alloc _).grown hgr3 (fun j hj => .inr (HOWN.out.lt j hj).1)
        go_loud (refine ⟨⟨i + 1, by omega, by go_num, by rw [HS.out], ?_, o3⟩, by simp [intOf]; omega⟩)
        rw [HOL.out, List.length_append, ← HM.out, flat_append]
        exact own3
      | false =>
        by_cases hl : lessE (k, b) (x, y)
        · have hs2 : someGt (k, b) (S2.take (i + 1)) = true := by rw [HTS.out, someGt_snoc, hd]; simp [hl]
          have ho2 : outL (k, b) (S2.take (i + 1)) = outL (k, b) (S2.take i) ++ [(k, b)] ++ [(x, y)] := by rw [HTS.out]; exact outL_here _ _ _ hd hl
          have HS := Lib.hid hs2
          have HOL := Lib.hid ho2
          have HLD : Hid (decide (lessE (k, b) (x, y)) = true) := by simp [Hid, hl]
          clear hd hs2 ho2 hl
          go_wp2
          (
            refine wp_region_mixed [] [0, 1, 2, 3, 4, 5, 6, 7] 8 [9] (by kernel_rfl) (by kernel_rfl) (fun _ _ _ _ h => h) ?_
            simp only [pick, consO, List.getElem?_toArray, List.getElem?_cons_succ, List.getElem?_cons_zero, movesOf]
            repeat (go_big_quiet_step (fail))
            refine wpQuiet_nil ?_)
          rintro _ ⟨nq, rfl⟩
          (
            obtain ⟨wq, hwq⟩ : ∃ wq, wq = wr.drewN nq := ⟨_, rfl⟩
            have HOWN' : Hid (wq.ownsRow w2.heap.size 33 2 u5 m (flat (outL (k, b) (S2.take i)))) := by rw [hwq]; exact HOWN
            have HO' : Hid (Only (fun _ => False) w2 wq) := by rw [hwq]; exact HO.out.drewN nq
            have hszq : w2.heap.size ≤ wq.heap.size := by rw [hwq]; exact hsz
            have g0 : wq.cell? ⟨w.heap.size, 0, none⟩ = some (.int .i64 k) := by rw [hwq]; exact c0
            have g1 : wq.cell? ⟨w.heap.size, 1, none⟩ = some (.int .i64 b) := by rw [hwq]; exact c1
            have q0 : wq.cell? ⟨rb, off + i * 2, none⟩ = some (.int .i64 x) := by rw [hwq]; exact e0
            have q1 : wq.cell? ⟨rb, off + i * 2 + 1, none⟩ = some (.int .i64 y) := by rw [hwq]; exact e1
            rw [← hwq]
            clear hwq c0 c1 e0 e1 HOWN HO
            have HOWN := HOWN'
            have HO := HO'
            clear HOWN' HO')
          go_wp2_with (fail)
          refine (less_is (k, b) (x, y) true HLD.out _).mono ?_
          rintro e wp ⟨rfl, op⟩
          have HOWN2 : Hid (wp.ownsRow w2.heap.size 33 2 u5 m (flat (outL (k, b) (S2.take i)))) := ownsRow_only HOWN.out op (fun _ _ => id)
          have HO2 : Hid (Only (fun _ => False) w2 wp) := HO.out.trans op (fun _ _ h => h)
          have hszp : w2.heap.size ≤ wp.heap.size := HO2.out.size
          obtain ⟨g0', g1'⟩ := two_cells (HO2.out.keep KB.out id)
          clear q0 q1 g0 g1 HOWN HO op
          go_wp2_with (first
            | ((at_builtin; refine wpList_append_own _ rfl (.tmp 31) (.tmp 33) 27 rfl w2.heap.size 33 i0 (.agg #[.int .i64 0, .int .i64 0]) 2 16 Try.underlying27 hi0 hz0 hz1 hz2 rfl (by decide) _ m _ rfl ((HOWN2.out.alloc _)) ⟨wp.heap.size, 0, none⟩ 1 1 [.int .i64 k, .int .i64 b] rfl rfl (new_two _ _ _ _) (by simp [Value.oneCell']) (by unfold maxLen; omega) (by omega) (by simp; omega) ?_; intro v3 w3 own3 hgr3 _)
               have o3 : Only (fun _ => False) w2 w3 := (HO2.out.alloc _).grown hgr3 (fun j hj => .inr (HOWN2.out.lt j hj).1)
               have p0 := o3.cell HD.out.1 id
               have p1 := o3.cell HD.out.2 id
               have hsz3 := o3.size
               have O3 := Lib.hid o3
               have OWN3 := Lib.hid own3
               clear o3 own3 hgr3)
            | ((at_builtin; refine wpList_append_own _ rfl (.tmp 35) (.tmp 40) 27 rfl w2.heap.size 33 i0 (.agg #[.int .i64 0, .int .i64 0]) 2 16 Try.underlying27 hi0 hz0 hz1 hz2 rfl (by decide) _ (m + 1) _ rfl ((OWN3.out.alloc _)) ⟨w3.heap.size, 0, none⟩ 1 1 [.int .i64 x, .int .i64 y] rfl rfl (new_two _ _ _ _) (by simp [Value.oneCell']) (by unfold maxLen; omega) (by omega) (by simp; omega) ?_; intro v4 w4 own4 hgr4 _)))
          have o4 : Only (fun _ => False) w2 w4 := (O3.out.alloc _).grown hgr4 (fun j hj => .inr (OWN3.out.lt j hj).1)
          refine ⟨⟨i + 1, by omega, by go_num, by rw [HS.out], ?_, o4⟩, by simp [intOf]; omega⟩
          rw [HOL.out, List.length_append, List.length_append, ← HM.out, flat_append, flat_append]
          exact own4
        · have hs2 : someGt (k, b) (S2.take (i + 1)) = false := by rw [HTS.out, someGt_snoc, hd]; simp [hl]
          have ho2 : outL (k, b) (S2.take (i + 1)) = outL (k, b) (S2.take i) ++ [(x, y)] := by rw [HTS.out]; exact outL_not _ _ _ hd hl
          have HS := Lib.hid hs2
          have HOL := Lib.hid ho2
          have HLD : Hid (decide (lessE (k, b) (x, y)) = false) := by simp [Hid, hl]
          clear hd hs2 ho2 hl
          go_wp2
          (
            refine wp_region_mixed [] [0, 1, 2, 3, 4, 5, 6, 7] 8 [9] (by kernel_rfl) (by kernel_rfl) (fun _ _ _ _ h => h) ?_
            simp only [pick, consO, List.getElem?_toArray, List.getElem?_cons_succ, List.getElem?_cons_zero, movesOf]
            repeat (go_big_quiet_step (fail))
            refine wpQuiet_nil ?_)
          rintro _ ⟨nq, rfl⟩
          (
            obtain ⟨wq, hwq⟩ : ∃ wq, wq = wr.drewN nq := ⟨_, rfl⟩
            have HOWN' : Hid (wq.ownsRow w2.heap.size 33 2 u5 m (flat (outL (k, b) (S2.take i)))) := by rw [hwq]; exact HOWN
            have HO' : Hid (Only (fun _ => False) w2 wq) := by rw [hwq]; exact HO.out.drewN nq
            have hszq : w2.heap.size ≤ wq.heap.size := by rw [hwq]; exact hsz
            have g0 : wq.cell? ⟨w.heap.size, 0, none⟩ = some (.int .i64 k) := by rw [hwq]; exact c0
            have g1 : wq.cell? ⟨w.heap.size, 1, none⟩ = some (.int .i64 b) := by rw [hwq]; exact c1
            have q0 : wq.cell? ⟨rb, off + i * 2, none⟩ = some (.int .i64 x) := by rw [hwq]; exact e0
            have q1 : wq.cell? ⟨rb, off + i * 2 + 1, none⟩ = some (.int .i64 y) := by rw [hwq]; exact e1
            rw [← hwq]
            clear hwq c0 c1 e0 e1 HOWN HO
            have HOWN := HOWN'
            have HO := HO'
            clear HOWN' HO')
          go_wp2_with (fail)
          refine (less_is (k, b) (x, y) false HLD.out _).mono ?_
          rintro e wp ⟨rfl, op⟩
          have HOWN2 : Hid (wp.ownsRow w2.heap.size 33 2 u5 m (flat (outL (k, b) (S2.take i)))) := ownsRow_only HOWN.out op (fun _ _ => id)
          have HO2 : Hid (Only (fun _ => False) w2 wp) := HO.out.trans op (fun _ _ h => h)
          have hszp : w2.heap.size ≤ wp.heap.size := HO2.out.size
          have p0 := HO2.out.cell HD.out.1 id
          have p1 := HO2.out.cell HD.out.2 id
          clear q0 q1 g0 g1 HOWN HO op
          go_wp2_with ((at_builtin; refine wpList_append_own _ rfl (.tmp 35) (.tmp 40) 27 rfl w2.heap.size 33 i0 (.agg #[.int .i64 0, .int .i64 0]) 2 16 Try.underlying27 hi0 hz0 hz1 hz2 rfl (by decide) _ m _ rfl ((HOWN2.out.alloc _)) ⟨wp.heap.size, 0, none⟩ 1 1 [.int .i64 x, .int .i64 y] rfl rfl (new_two _ _ _ _) (by simp [Value.oneCell']) (by unfold maxLen; omega) (by omega) (by simp; omega) ?_; intro v3 w3 own3 hgr3 _))
          have o3 : Only (fun _ => False) w2 w3 := (HO2.out.alloc _).grown hgr3 (fun j hj => .inr (HOWN2.out.lt j hj).1)
          refine ⟨⟨i + 1, by omega, by go_num, by rw [HS.out], ?_, o3⟩, by simp [intOf]; omega⟩
          rw [HOL.out, List.length_append, ← HM.out, flat_append]
          exact own3
    · have hi2 : S2.take i = S2 := by
        have : i = n := by omega
        rw [this, HN.out, List.take_length]
      rw [hi2] at HOWN HM
      rw [hi2]
      clear hi2
      have hszr : w.heap.size ≤ w2.heap.size := hsz2
      cases hd : someGt (k, b) S2 with
      | true =>
        have hfin : outL (k, b) S2 = setS S (k, b) := by unfold outL setS; rw [if_pos hd, HS2.out]
        rw [hfin] at HOWN
        have HR := Lib.hid ((ReadE.of_owns HOWN.out).2)
        clear hd hfin
        go_wp2
        go_ret
        exact ⟨_, rfl, readE_base HR.out hszr, O2.out.trans HO.out (fun _ _ h => h)⟩
      | false =>
        have hfin : outL (k, b) S2 ++ [(k, b)] = setS S (k, b) := by
          unfold outL setS
          rw [if_neg (by rw [hd]; simp), HS2.out]
          exact (ins_end _ _ (by rw [← HS2.out]; exact hd)).symm
        have HF := Lib.hid hfin
        clear hd hfin
        go_wp2_with ((at_builtin; refine wpList_append_own _ rfl (.tmp 44) (.tmp 46) 27 rfl w2.heap.size 33 i0 (.agg #[.int .i64 0, .int .i64 0]) 2 16 Try.underlying27 hi0 hz0 hz1 hz2 rfl (by decide) _ m _ rfl ((HOWN.out.alloc _)) ⟨wr.heap.size, 0, none⟩ 1 1 [.int .i64 k, .int .i64 b] rfl rfl (new_two _ _ _ _) (by simp [Value.oneCell']) (by unfold maxLen; omega) (by omega) (by simp; omega) ?_; intro v3 w3 own3 hgr3 _))
        go_ret
        have o3 : Only (fun _ => False) w2 w3 := (HO.out.alloc _).grown hgr3 (fun j hj => .inr (HOWN.out.lt j hj).1)
        have own3' : w3.ownsRow w2.heap.size 33 2 v3 (m + 1) (flat (setS S (k, b))) := by rw [← HF.out, flat_append]; exact own3
        exact ⟨_, rfl, readE_base (ReadE.of_owns own3').2 hszr, O2.out.trans o3 (fun _ _ h => h)⟩

end Go.Proofs.Ytnhiohgcoifniaa
