/- The contract of maps.Keys at links. -/
import Derived.Test.YtflcdbefakjcbaaN3
import Derived.Deep.Cut
import Derived.Laws.AppendOwn
import Derived.OwnWalkIn
import Derived.TacticsInMore
import Derived.LoopNIn
import Derived.LoopIn
import Derived.RangeFuncBox
import Derived.Maps.AppendAt
import Derived.Shelf.Abstract
import Derived.Shelf.RegionOpen
namespace Go.Proofs.Ytflcdbefakjcbaa
open Go.RowKit Go.Gav Go.BigFrame Go.Shelf
attribute [local go_sem] Oper.semAt_some

theorem keys_call (m : Option Nat) (w : World) :
    Calls Try.prog 47 #[.map m] w fun e w' => e = .returned (.func (.func 54) #[] #[.pointer (some ⟨w.heap.size, 0, none⟩)]) ∧ w' = w.alloc (.cells #[.map m] 84) := by
  go_enter Try.func47, Try.ntmps47
  go_wp2
  go_ret
  exact ⟨rfl, rfl⟩

theorem nd_val {ps : List (En × Nat)} (h : (ps.map (·.1)).Nodup) {x : En} {q q' : Nat} (h1 : (x, q) ∈ ps) (h2 : (x, q') ∈ ps) : q = q' := by
  have a := lookV_mem h h1
  have b := lookV_mem h h2
  rw [a] at b
  simp [ptrV] at b
  exact b

theorem Ranging.seen {w : World} {mb r : Nat} {ps ys : List (En × Nat)} (h : Ranging w mb r ps ys) : (w.iterSeen r).size = ys.length := by
  obtain ⟨es, clock, seen, ks, g1, g2, g3, g4, g5, g6, g7, g8, g9, g10⟩ := h
  have e1 := congrArg List.length g7
  have e2 := congrArg List.length g8
  simp at e1 e2
  unfold World.iterSeen
  rw [g6]
  simp only []
  omega

set_option maxRecDepth 100000 in
set_option maxHeartbeats 1000000 in
theorem keys_iter (bx mb : Nat) (ps : List (En × Nat)) (w : World) (hbx : w.cell? ⟨bx, 0, none⟩ = some (.map (some mb))) (hm : PMap w mb ps) :
    IterU Try.prog 54 #[.pointer (some ⟨bx, 0, none⟩)] encE (ps.map (·.1)) w (fun k => k = mb) := by
  intro l W hW R H
  have hc := hW.cell hbx id
  have hp := hm.only hW id
  have HH := Lib.hid H
  have hmW := hp.lt
  have hnd := hp.nd
  clear hbx hW hm H
  show Calls Try.prog 54 #[.func (.yield l) #[] #[], .pointer (some ⟨bx, 0, none⟩)] W _
  go_enter Try.func54, Try.ntmps54
  go_wp2_with (first | (at_range; refine wpList_rangeP _ rfl _ rfl mb ps rfl hp ?_; intro w1 hr1 ho1 hs1) | fail)
  go_frame
  obtain ⟨J, Jx, hJ0, hJs, hJxs, hY, hJd, hJxd⟩ := HH.out w1 ho1
  have HJ0 := Lib.hid hJ0
  have HJs := Lib.hid hJs
  have HY := Lib.hid hY
  have HJd := Lib.hid hJd
  have HJxd := Lib.hid hJxd
  have HR1 := Lib.hid hr1
  clear hJ0 hJs hJxs hY hJd hJxd hr1 hp HH hc ho1
  go_loopw [] (fun wr => ∃ ys, Hid (Ranging wr mb W.heap.size ps ys) ∧ Hid (J (ys.map (·.1)) wr) ∧ Hid (w1.heap.size ≤ wr.heap.size)) (fun wr => ps.length - (wr.iterSeen W.heap.size).size)
  case atStart => exact ⟨[], HR1, HJ0, Nat.le_refl _⟩
  case round =>
    clear HJ0 HR1
    obtain ⟨ys, HR, HJ, HZ⟩ := hrel
    have hrg := HR.out
    go_wp2_with (first | (at_next; refine wpList_nextP _ rfl _ rfl mb W.heap.size ps ys rfl hrg ?_ ?_) | fail)
    · intro hperm
      have HP := Lib.hid (hperm.map (·.1))
      clear hperm hrg
      go_wp2
      go_end0
      exact ⟨⟨_, rfl⟩, HJd.out _ _ HP.out HJ.out⟩
    · rintro x1 x2 q w2 hx hnx hl hrg2 ho2 hen
      have hseen := hrg.seen
      have hseen2 := hrg2.seen
      rw [List.length_append] at hseen2
      have hmem := hrg.mem
      have hz := HZ.out
      have o3 : Only (fun k => k = W.heap.size) wr (w2.alloc (.cells #[.int .i64 x1, .int .i64 x2] 62)) := ho2.alloc _
      obtain ⟨fn, tmps, assign, body, hy, hR⟩ := HY.out (ys.map (·.1)) (x1, x2) wr _ ⟨List.mem_map.2 ⟨((x1, x2), q), hx, rfl⟩, fun h => by
        obtain ⟨⟨x', q'⟩, h1, h2⟩ := List.mem_map.1 h
        simp only at h2
        subst h2
        have := nd_val hnd hx (hmem _ h1)
        subst this
        exact hnx h1⟩ HJ.out (o3.mono (fun k hk => by subst hk; exact ⟨Nat.le_refl _, by omega⟩))
      simp only [encE] at hy
      obtain ⟨z0, z1⟩ := two_cells (heap_alloc_new w2 (.cells #[.int .i64 x1, .int .i64 x2] 62))
      have HRR := Lib.hid hR
      have HO3 := Lib.hid o3
      have HRG3 := Lib.hid (hrg2.only ((Only.refl (fun _ => False) w2).alloc (.cells #[.int .i64 x1, .int .i64 x2] 62)) id id)
      have HSE := Lib.hid (And.intro hseen (And.intro hseen2 hl))
      simp only [keyV, ptrV] at hen ⊢
      clear hx hnx hl hrg hrg2 ho2 hseen hseen2 hmem o3 hR
      go_upto_region 3 with fail
      refine (wpIn_wide (n := 0)).1 ?_
      gi_wp2
      refine ⟨rfl, HRR.out.mono ?_⟩
      rintro e W3 (⟨rfl, hk3, hj3⟩ | ⟨rfl, hk3, hx3⟩)
      · have HJ3 := Lib.hid hj3
        have hsz3 := HO3.out.size
        have HR3 : Hid (Ranging W3 mb W.heap.size ps (ys ++ [((x1, x2), q)])) := by
          obtain ⟨es, clock, seen, ks, g1, g2, g3, g4, g5, g6, g7⟩ := HRG3.out
          exact ⟨es, clock, seen, ks, (hk3 _ (.inl rfl)).trans g1, g2, g3, g4, g5, (hk3 _ (.inr (.inl ⟨Nat.le_refl _, by omega⟩))).trans g6, g7⟩
        have hlt3 : w1.heap.size ≤ W3.heap.size := by
          have := HR3.out.lt.2.1
          omega
        clear hk3 hj3 hy HRR
        gi_wp2
        go_wp2
        go_roundw
        case rel => exact ⟨ys ++ [((x1, x2), q)], HR3, by rw [List.map_append]; exact HJ3, hlt3⟩
        case measure =>
          have h1 := HR3.out.seen
          have h2 := HSE.out
          rw [List.length_append] at h1
          simp at h1 h2 ⊢
          omega
      · have HX3 := Lib.hid hx3
        clear hk3 hx3 hy HRR
        gi_wp2
        go_wp2
        exact bodyPost_ret (results_none rfl _ _ _) rfl ⟨⟨_, rfl⟩, HJxd.out _ HX3.out⟩

end Go.Proofs.Ytflcdbefakjcbaa
