/- The contract of the net's Copy. -/
import Derived.Test.YtflcdbefakjcbaaO4
namespace Go.Proofs.Ytflcdbefakjcbaa
open Go.RowKit Go.Gav Go.BigFrame Go.Shelf
variable {w w' : World} {S T : Nat → Prop} {xb n room mb : Nat} {f : Cont} {ps : List (En × Nat)} {rb : En → Nat} {own : Nat → Option En}

/-- A link comes in, with what stands on it. -/
theorem NetAt.addQ {x : En} {q r : Nat} {l : List Int} (h : NetAt w S xb n room f mb ps rb own) (hx : ∀ p ∈ ps, p.1 ≠ x) (hg : (0 ≤ x.1 ∧ x.1 < n) ∧ (0 ≤ x.2 ∧ x.2 < n) ∧ x.1 ≠ x.2) (ho : Only (fun k => k = mb) w w') (hm : PMap w' mb (ps ++ [(x, q)]))
    (hq : QRep w' q r room l) (hnew : w.heap.size ≤ q ∧ w.heap.size ≤ r) :
    NetAt w' (fun k => S k ∨ k = q ∨ k = r) xb n room (Ytflcdbefakjcbaa.upd f x l) mb (ps ++ [(x, q)]) (fun y => if y = x then r else rb y) (fun k => if k = q ∨ k = r then some x else own k) := by
  have hne : ∀ k, k < w.heap.size → ¬ (k = q ∨ k = r) := fun k hk e => by omega
  have hxm : ∀ k, own k ≠ none → k ≠ mb := fun k hk e => hk (e ▸ h.ownb.2)
  have hxb : xb ≠ mb := fun e => by
    have h1 := h.box
    obtain ⟨es, clock, h2, _⟩ := h.map
    rw [e, h2] at h1
    cases h1
  have hold : ∀ p ∈ ps, QRep w' p.2 (rb p.1) room (f p.1) := fun p hp => (h.q p hp).only ho (hxm _ (by rw [(h.ownq p hp).1]; simp)) (hxm _ (by rw [(h.ownq p hp).2]; simp))
  refine ⟨ho.keep h.box hxb, hm, fun p hp => ?_, fun y hy => ?_, fun p hp => ?_, ⟨?_, ?_⟩, fun p hp => ?_, h.hn, h.hroom, ⟨.inl h.sb.1, .inl h.sb.2.1, fun p hp => ?_⟩, ?_⟩
  · rcases List.mem_append.1 hp with hp | hp
    · simp only [Ytflcdbefakjcbaa.upd, hx p hp, if_false]
      exact hold p hp
    · simp at hp
      subst hp
      simp only [Ytflcdbefakjcbaa.upd, if_true]
      exact hq
  · have : y ≠ x := fun e => hy (x, q) (by simp) e.symm
    simp only [Ytflcdbefakjcbaa.upd, this, if_false]
    exact h.off y (fun p hp => hy p (by simp [hp]))
  · rcases List.mem_append.1 hp with hp | hp
    · have hl := (h.q p hp).lt
      simp only [hx p hp, if_false, hne _ hl.1, hne _ hl.2]
      exact h.ownq p hp
    · simp at hp
      subst hp
      simp
  · simp [hne _ (h.lt _ h.sb.1), h.ownb.1]
  · simp [hne _ (h.lt _ h.sb.2.1), h.ownb.2]
  · rcases List.mem_append.1 hp with hp | hp
    · exact h.grid p hp
    · simp at hp
      subst hp
      exact hg
  · rcases List.mem_append.1 hp with hp | hp
    · simp only [hx p hp, if_false]
      exact ⟨.inl (h.sb.2.2 p hp).1, .inl (h.sb.2.2 p hp).2⟩
    · simp at hp
      subst hp
      simp
  · rintro k (hk | rfl | rfl)
    · exact Nat.lt_of_lt_of_le (h.lt k hk) ho.size
    · exact hq.lt.1
    · exact hq.lt.2

/-- What was copied so far. -/
def part (f : Cont) (ys : List (En × Nat)) : Cont := fun x => if x ∈ ys.map (·.1) then f x else []
theorem part_nil (f : Cont) : part f [] = fun _ => [] := by funext x; simp [part]
theorem part_snoc (f : Cont) (ys : List (En × Nat)) (x : En) (q : Nat) : upd (part f ys) x (f x) = part f (ys ++ [(x, q)]) := by
  funext y
  unfold upd part
  by_cases e : y = x
  · subst e; simp
  · have h1 : y ∈ (ys ++ [(x, q)]).map (·.1) ↔ y ∈ ys.map (·.1) := by rw [List.map_append, List.mem_append]; simp [e]
    simp only [h1, e, if_false]
theorem NetAt.part_all (h : NetAt w S xb n room f mb ps rb own) {ys : List (En × Nat)} (hp : ys.Perm ps) : part f ys = f := by
  funext x
  unfold part
  split
  · rfl
  · rename_i hx
    refine (h.off x (fun p hpp e => hx ?_)).symm
    rw [← e]
    exact List.mem_map.2 ⟨p, hp.mem_iff.2 hpp, rfl⟩

/-- A net that is empty. -/
theorem net_empty (w : World) (n room : Nat) (hn : 1 ≤ n ∧ n ≤ 8) (hr : 1 ≤ room ∧ room ≤ 65536) :
    NetAt ((w.alloc (.map #[] 0)).alloc (.cells (boxCells n room w.heap.size) 86)) (fun k => k = w.heap.size ∨ k = w.heap.size + 1) (w.heap.size + 1) n room (fun _ => []) w.heap.size [] (fun _ => 0) (fun _ => none) := {
  box := heap_alloc2_new _ _ _
  map := (PMap.new w).only ((Only.refl (fun _ => False) _).alloc _) id
  q := fun p hp => by simp at hp
  off := fun _ _ => rfl
  ownq := fun p hp => by simp at hp
  ownb := ⟨rfl, rfl⟩
  grid := fun p hp => by simp at hp
  hn := hn
  hroom := hr
  sb := ⟨.inr rfl, .inl rfl, fun p hp => by simp at hp⟩
  lt := fun k hk => by simp; omega }

set_option maxRecDepth 100000 in
set_option maxHeartbeats 1000000 in
theorem net_copy (w : World) (h : Net w S xb n room f) :
    Calls Try.prog 29 #[.pointer (some ⟨xb, 0, none⟩)] w fun e w' => ∃ S' yb, e = .returned (.pointer (some ⟨yb, 0, none⟩)) ∧ Net w' S' yb n room f ∧ (∀ k, S' k → w.heap.size ≤ k) ∧ Only (fun _ => False) w w' := by
  have hmm := @run_makeMap Try.prog
  obtain ⟨mb, ps, rb, own, hh⟩ := h
  obtain ⟨c0, c1, c2⟩ := hh.cells
  have HH := Lib.hid hh
  clear hh
  go_enter Try.func29, Try.ntmps29
  go_wp2_with (fail)
  go_region_held3 (fun w' => w'.cell? ⟨xb, 0, none⟩ = some (.int .i64 n) ∧ w'.cell? ⟨xb, 1, none⟩ = some (.int .i64 room)) (first | exact ⟨c0, c1⟩ | go_keep) (fail)
  have hh1 := net_empty w n room HH.out.hn HH.out.hroom
  have o1 : Only (fun _ => False) w ((w.alloc (.map #[] 0)).alloc (.cells (boxCells n room w.heap.size) 86)) := ((Only.refl _ _).alloc _).alloc _
  have hz1 : ((w.alloc (.map #[] 0)).alloc (.cells (boxCells n room w.heap.size) 86)).heap.size = w.heap.size + 2 := by simp
  change Exit.then _ _ _ _ (World.drew ((w.alloc (.map #[] 0)).alloc (.cells (boxCells n room w.heap.size) 86)))
  generalize (w.alloc (.map #[] 0)).alloc (.cells (boxCells n room w.heap.size) 86) = w1 at *
  have hh2 := hh1.only ((Only.refl (fun _ => False) w1).drew) (fun _ _ => id)
  have o2 : Only (fun _ => False) w w1.drew := o1.drew
  have hz2 : w1.drew.heap.size = w.heap.size + 2 := hz1
  clear hh1 o1 hz1 hmm c0 c1 c2
  generalize w1.drew = w2 at *
  have hp2 := HH.out.map.only o2 id
  have c2 := (HH.out.only o2 (fun _ _ => id)).cells.2.2
  go_wp2_with (first | (at_range; refine wpList_rangeP _ rfl _ rfl mb ps rfl hp2 ?_; intro w3 hr3 ho3 hs3) | fail)
  go_frame
  rw [hz2] at hr3 ⊢
  have HNET := Lib.hid (hh2.only ho3 (fun _ _ => id))
  have HO := Lib.hid (o2.trans ho3 (fun _ _ h => h))
  have HR := Lib.hid hr3
  clear hh2 o2 hp2 c2 ho3 hr3 hs3 hz2
  go_loopw [] (fun wr => ∃ ys S' psY rbY ownY, Hid (Ranging wr mb (w.heap.size + 2) ps ys) ∧ Hid (NetAt wr S' (w.heap.size + 1) n room (part f ys) w.heap.size psY rbY ownY) ∧ Hid (psY.map (·.1) = ys.map (·.1)) ∧ Hid (∀ k, S' k → w.heap.size ≤ k ∧ k ≠ w.heap.size + 2) ∧ Hid (Only (fun _ => False) w wr)) (fun wr => ps.length - (wr.iterSeen (w.heap.size + 2)).size)
  case atStart => exact ⟨[], _, _, _, _, HR, by rw [part_nil]; exact HNET, rfl, fun k hk => by omega, HO⟩
  case round =>
    clear HR HNET HO
    obtain ⟨ys, S', psY, rbY, ownY, HR, HN, HY, HS, HO⟩ := hrel
    have hrg := HR.out
    go_wp2_with (first | (at_next; refine wpList_nextP _ rfl _ rfl mb (w.heap.size + 2) ps ys rfl hrg ?_ ?_) | fail)
    · intro hperm
      have HP := Lib.hid hperm
      clear hperm hrg
      go_wp2
      go_ret
      have hn := HN.out
      rw [HH.out.part_all HP.out] at hn
      exact ⟨S', w.heap.size + 1, rfl, ⟨_, _, _, _, hn⟩, fun k hk => (HS.out k hk).1, HO.out⟩
    · rintro x1 x2 q w4 hx hnx hl hrg2 ho2 hen
      have hseen := hrg.seen
      have hseen2 := hrg2.seen
      rw [List.length_append] at hseen2
      have hmem := hrg.mem
      have hnd := hrg.pmap.nd
      have o3 : Only (fun k => k = w.heap.size + 2) wr (w4.alloc (.cells #[.int .i64 x1, .int .i64 x2] 62)) := ho2.alloc _
      obtain ⟨z0, z1⟩ := two_cells (heap_alloc_new w4 (.cells #[.int .i64 x1, .int .i64 x2] 62))
      have HNX := Lib.hid (show ∀ p ∈ psY, p.1 ≠ (x1, x2) from fun p hp e => by
        have h1 : (x1, x2) ∈ ys.map (·.1) := by rw [← HY.out, ← e]; exact List.mem_map.2 ⟨p, hp, rfl⟩
        obtain ⟨⟨x', q'⟩, h3, h4⟩ := List.mem_map.1 h1
        simp only at h4
        subst h4
        have := nd_val hnd hx (hmem _ h3)
        subst this
        exact hnx h3)
      have HSE := Lib.hid (And.intro hseen (And.intro hseen2 hl))
      have HRG3 := Lib.hid (hrg2.only ((Only.refl (fun _ => False) w4).alloc (.cells #[.int .i64 x1, .int .i64 x2] 62)) id id)
      have HN3 := Lib.hid (HN.out.only o3 (fun k hk => (HS.out k hk).2))
      have HO3 := Lib.hid (HO.out.trans o3 (fun j hj h => by omega))
      have hkb : w4.heap.size ≠ w.heap.size := by
        have := HN.out.map.lt
        have := ho2.size
        omega
      have HX := Lib.hid hx
      simp only [keyV, ptrV] at hen ⊢
      clear hx hnx hl hrg hrg2 ho2 hseen hseen2 hmem hnd o3 HR HN HO
      go_wp2_with (fail)
      clear hen
      generalize w4.alloc (.cells #[.int .i64 x1, .int .i64 x2] 62) = w5 at *
      have hh5 := HH.out.only HO3.out (fun _ _ => id)
      have hq5 : QRep w5 q (rb (x1, x2)) room (f (x1, x2)) := hh5.q _ HX.out
      have d2 := HN3.out.cells.2.2
      have HYNE := Lib.hid (show w.heap.size + 1 ≠ w.heap.size by omega)
      have HG := Lib.hid (hh5.grid _ HX.out)
      have HQ5 := Lib.hid hq5
      have HKB := Lib.hid hkb
      clear hq5 hh5 hkb
      go_region_held3 (fun w' => w'.cell? ⟨w.heap.size + 1, 2, none⟩ = some (.map (some w.heap.size)) ∧ w'.cell? ⟨w4.heap.size, 0, none⟩ = some (.int .i64 x1) ∧ w'.cell? ⟨w4.heap.size, 1, none⟩ = some (.int .i64 x2)) (first | exact ⟨d2, z0, z1⟩ | exact ⟨o6.cell d2 id, o6.cell z0 id, o6.cell z1 id⟩ | exact ⟨o7.cell (o6.cell d2 id) HYNE.out, o7.cell (o6.cell z0 id) HKB.out, o7.cell (o6.cell z1 id) HKB.out⟩) (first | (go_at_call 20; refine (copy_at q (rb (x1, x2)) room (f (x1, x2)) _ (HQ5.out.only ((Only.refl (fun _ => False) _).drewN 1) id id)).mono ?_; rintro _ w6 ⟨cb, rc, rfl, hq6, hcb, hrc, o6⟩; obtain ⟨w7, hup, hm7, o7⟩ := run_put ((HN3.out.map.only ((Only.refl (fun _ => False) _).drewN 1) id).only o6 id) (x1, x2) cb HNX.out; simp only [keyV, ptrV] at hup))
      have o57 : Only (fun k => k = w.heap.size) w5 w7 := (((Only.refl (fun _ => False) w5).drewN 1).trans o6 (fun _ _ h => h)).mono (fun _ h => h.elim) |>.trans o7 (fun _ _ h => h)
      have hlt5 := HRG3.out.lt
      have hmb := HH.out.map.lt
      have hcb' : w5.heap.size ≤ cb := hcb
      have hrc' : w5.heap.size ≤ rc := hrc
      have hq7 := hq6.only o7 (fun e => by have e' : cb = w.heap.size := e; omega) (fun e => by have e' : rc = w.heap.size := e; omega)
      have hN7 := HN3.out.addQ HNX.out HG.out o57 hm7 hq7 ⟨hcb', hrc'⟩
      rw [part_snoc f ys (x1, x2) q] at hN7
      have HN7 := Lib.hid hN7
      have HR7 := Lib.hid (HRG3.out.only o57 (fun e => by have e' : mb = w.heap.size := e; omega) (fun e => by have e' : w.heap.size + 2 = w.heap.size := e; omega))
      have HO7 := Lib.hid (HO3.out.trans o57 (fun j hj h => by omega))
      clear hup hm7 o7 o57 hq7 hN7 hq6 hcb hrc o6 d2 z0 z1
      go_wp2
      go_roundw
      case rel =>
        refine ⟨ys ++ [((x1, x2), q)], _, _, _, _, HR7, HN7, ?_, ?_, HO7⟩
        · show List.map _ _ = List.map _ _
          rw [List.map_append, List.map_append, HY.out]
          rfl
        · rintro k (hk | rfl | rfl)
          · exact HS.out k hk
          · omega
          · omega
      case measure =>
        have h1 := HR7.out.seen
        have h2 := HSE.out
        rw [List.length_append] at h1
        simp at h1 h2 ⊢
        omega

end Go.Proofs.Ytflcdbefakjcbaa
