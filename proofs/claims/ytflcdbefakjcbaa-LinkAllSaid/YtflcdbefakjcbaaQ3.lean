/- The contract of the queue's grow. -/
import Derived.Test.YtflcdbefakjcbaaQ2
import Derived.Test.YtflcdbefakjcbaaMem
import Derived.WalkLawsBesides
namespace Go.Proofs.Ytflcdbefakjcbaa
open Go.RowKit Go.Gav Go.BigFrame

theorem info3 : (Try.prog.info? 3).map (fun i => (i.zero, i.size, i.bytes)) = some (some (.int .i64 0), 1, 8) := by kernel_rfl

set_option maxRecDepth 100000 in
set_option maxHeartbeats 400000 in
theorem grow_any (b rb L fr cap room : Nat) (ro : Option Addr) (xs : List Int) (w : World)
    (h0 : w.cell? ⟨b, 0, none⟩ = some (.slice ro L L)) (h1 : w.cell? ⟨b, 1, none⟩ = some (.int .i64 fr)) (h2 : w.cell? ⟨b, 2, none⟩ = some (.int .i64 xs.length)) (h3 : w.cell? ⟨b, 3, none⟩ = some (.int .i64 room))
    (hfz : ∀ j, w.frozen? ⟨b, j, none⟩ = false) (hb : b < w.heap.size)
    (hro : 0 < L → ro = some ⟨rb, 0, none⟩) (hfr : 0 < L → fr < L) (hx : ∀ k, k < xs.length → w.cell? ⟨rb, (fr + k) % L, none⟩ = some (.int .i64 (xs.getD k 0)))
    (hL : L ≤ 1048576) (hxL : xs.length ≤ L) (hroom : room ≤ 1048576) (hcap : cap = min (2 * L + 1) room) (hxc : xs.length ≤ cap) (hlt : L < room) :
    Calls Try.prog 36 #[.pointer (some ⟨b, 0, none⟩)] w fun e w' => e = .returned (.tuple #[]) ∧
      w'.heap[w.heap.size]? = some (.cells (ints (xs ++ List.replicate (cap - xs.length) 0)) 3 (0, 0)) ∧
      ∃ wr, Only (fun _ => False) w wr ∧ SameMem ((wr.setCell ⟨b, 0, none⟩ (.slice (some ⟨w.heap.size, 0, none⟩) cap cap)).setCell ⟨b, 1, none⟩ (.int .i64 0)) w' := by
  obtain ⟨i0, hi, hz0, hz1, hz2⟩ := info_parts info3
  have hmk := run_make_ints (P := Try.prog) 36 3 i0 Try.underlying36 hi hz0 hz1 hz2 cap (by omega)
  have hmin : ∀ (d : Decidable ((room : Int) < 2 * (L : Int) + 1)), @ite Int _ d (room : Int) (2 * (L : Int) + 1) = (cap : Int) := fun d => by rw [hcap]; split <;> omega
  have HC := Lib.hid hcap
  clear hcap
  have HX := Lib.hid hx
  have HR := Lib.hid hro
  have HF := Lib.hid hfr
  clear hx hro hfr
  go_enter Try.func36, Try.ntmps36
  go_wp2
  refine wp_region_mixed [] [0, 1, 2, 3, 4, 5, 6, 7, 8, 9, 10, 11] 12 [13] (by kernel_rfl) (by kernel_rfl) (fun _ _ _ _ h => h) ?_
  simp only [pick, consO, List.getElem?_toArray, List.getElem?_cons_succ, List.getElem?_cons_zero, movesOf]
  repeat (go_big_quiet_step (fail))
  refine wpQuiet_nil ?_
  rintro _ ⟨nq, rfl⟩
  clear hmin
  have o1 : Only (fun _ => False) w (w.drewN nq) := (Only.refl _ _).drewN _
  have gs : (w.drewN nq).heap.size = w.heap.size := rfl
  change (w.drewN nq).cell? _ = _ at h0 h1 h2 h3
  change ∀ j, (w.drewN nq).frozen? _ = false at hfz
  change b < (w.drewN nq).heap.size at hb
  have HX' : Hid (∀ k, k < xs.length → (w.drewN nq).cell? ⟨rb, (fr + k) % L, none⟩ = some (.int .i64 (xs.getD k 0))) := HX.out
  clear HX
  have HS := Lib.hid gs
  clear gs
  have HO := Lib.hid o1
  clear o1
  generalize w.drewN nq = w1 at *
  go_wp2
  go_loopw [2, 21] (fun v i wr => ∃ k : Nat, k ≤ xs.length ∧ i = .int .i64 k ∧ v = .slice (some ⟨w1.heap.size, 0, none⟩) k cap ∧
      wr.heap[w1.heap.size]? = some (.cells (ints (xs.take k ++ List.replicate (cap - k) 0)) 3 (0, 0)) ∧ Only (fun _ => False) w1 wr) (fun _ i _ => xs.length - (intOf i).toNat)
  case atStart => exact ⟨0, Nat.zero_le _, rfl, rfl, by simpa using heap_alloc_new w1 _, (Only.refl _ _).alloc _⟩
  case round =>
    obtain ⟨k, hk, rfl, rfl, hg, ho⟩ := hrel
    have HG := Lib.hid hg
    clear hg
    have e0 := ho.cell h0 id
    have e1 := ho.cell h1 id
    have e2 := ho.cell h2 id
    have e3 := ho.cell h3 id
    have HO2 := Lib.hid ho
    clear ho
    by_cases hlt : k < xs.length
    · have hx0 := HO2.out.cell (HX'.out k hlt) id
      have hL0 : 0 < L := by omega
      obtain rfl := HR.out hL0
      have hfL := HF.out hL0
      have b1 : (0 : Int) ≤ ((fr : Int) + (k : Int)) % (L : Int) := Int.emod_nonneg _ (by omega)
      have b2 : ((fr : Int) + (k : Int)) % (L : Int) < (L : Int) := Int.emod_lt_of_pos _ (by omega)
      go_wp2
      refine wp_region_mixed [0] [1, 2, 3, 4, 5, 6, 7, 8, 9] 10 [11, 12] (by kernel_rfl) (by kernel_rfl) (fun _ _ _ _ h => h) ?_
      simp only [pick, consO, List.getElem?_toArray, List.getElem?_cons_succ, List.getElem?_cons_zero, movesOf, moveOf]
      conv => arg 6; simp [Act.put, Act.eval]
      repeat (go_big_quiet_step ((go_at_call 37; refine Calls.quiet_of (place_any _ rb L fr _ _ ?_ ?_ hL0 hL hfL (by omega) (by omega)) <;> (go_simp))))
      refine wpQuiet_nil ?_
      rintro _ ⟨nq2, rfl⟩
      have HG2 : Hid ((wr.drewN nq2).heap[w1.heap.size]? = some (.cells (ints (xs.take k ++ List.replicate (cap - k) 0)) 3 (0, 0))) := HG.out
      have HO3 : Hid (Only (fun _ => False) w1 (wr.drewN nq2)) := HO2.out.drewN _
      clear HG HO2 e0 e1 e2 e3 hx0 b1 b2
      generalize wr.drewN nq2 = wr2 at *
      go_wp2_with (at_builtin; refine wpList_append_one rfl (.tmp 24) (.tmp 34) 36 rfl 3 i0 Try.underlying36 hi hz1 w1.heap.size k cap _ rfl (hp_alloc HG2.out _) (by omega) (by rw [ints_size]; simp; omega) ⟨wr2.heap.size, 0, none⟩ 1 (.int .i64 xs[k]) rfl (by simp) rfl ?_)
      go_roundw
      case rel => 
        refine ⟨k + 1, by omega, by go_num, rfl, ?_, ?_⟩
        · rw [setRow_heap _ _ _ _ _ _ (hp_alloc HG2.out _), ints_set, fill_set xs k cap hlt hxc]
        · exact only_setRow (HO3.out.alloc _) _ _ (.inr (Nat.le_refl _))
      case measure => simp [intOf]; omega
    · obtain rfl : k = xs.length := by omega
      have ef : ∀ j, wr.frozen? ⟨b, j, none⟩ = false := fun j => by rw [World.frozen?_of_block (HO2.out.block b hb id)]; exact hfz j
      have hne : w1.heap.size ≠ b := by omega
      go_wp2
      go_end0
      have hg := HG.out
      rw [List.take_of_length_le (Nat.le_refl _)] at hg
      have hs := HS.out
      refine ⟨rfl, ?_, wr, ?_, ?_⟩
      · rw [← hs]
        exact hp_other (p := ⟨b, 1, none⟩) (hp_other (p := ⟨b, 0, none⟩) hg hne _) hne _
      · exact HO.out.trans HO2.out (fun _ _ h => h)
      · rw [← hs]
        exact ⟨rfl, rfl, rfl, rfl⟩

theorem grow_at (b rb room : Nat) (zs : List Int) (fr : Nat) (w : World) (h : QAt w b rb room zs fr zs.length) (hr : zs.length < room) :
    Calls Try.prog 36 #[.pointer (some ⟨b, 0, none⟩)] w fun e w' => e = .returned (.tuple #[]) ∧
      ∃ cap, zs.length < cap ∧ cap ≤ room ∧ QAt w' b w.heap.size room (ringItems zs fr zs.length ++ List.replicate (cap - zs.length) 0) 0 zs.length ∧ Only (fun k => k = b) w w' := by
  obtain ⟨c0, c1, c2, c3, cf⟩ := h.cells
  have hb := h.lt.1
  have hlen := ringItems_length zs fr zs.length
  have hi := h.hi
  refine (grow_any b rb zs.length fr (min (2 * zs.length + 1) room) room (if zs.length = 0 then none else some ⟨rb, 0, none⟩) (ringItems zs fr zs.length) w
    (by rw [c0, ringV]; split <;> simp_all) c1 (by rw [c2, hlen]) c3 cf hb (fun hL => if_neg (by omega)) (fun hL => (h.ring hL).2.2)
    (fun k hk => by
      rw [hlen] at hk
      rw [cell_ints (h.ring (by omega)).1 (Nat.mod_lt _ (by omega)), ringItems_getD _ _ _ _ hk]) (by have := h.fit; omega) (by omega) hi rfl (by omega) hr).mono ?_
  rintro e w' ⟨rfl, hg, wr, ho, ha⟩
  rw [hlen] at hg
  have hcl : (ringItems zs fr zs.length ++ List.replicate (min (2 * zs.length + 1) room - zs.length) 0).length = min (2 * zs.length + 1) room := by
    rw [List.length_append, hlen, List.length_replicate]; omega
  have hlo := h.lo
  refine ⟨rfl, min (2 * zs.length + 1) room, by omega, by omega, ⟨?_, ?_, ?_, ?_, ?_, h.lo, h.hi⟩, ?_⟩
  · rw [ha.heap, hcl]
    have g1 := ho.keep h.head id
    have g2 := hp_same (j := 1) (hp_same (j := 0) g1 (.slice (some ⟨w.heap.size, 0, none⟩) (min (2 * zs.length + 1) room) (min (2 * zs.length + 1) room))) (.int .i64 0)
    rw [ringV, if_neg (by omega)]
    simpa using g2
  · intro _
    exact ⟨hg, by omega, by rw [hcl]; omega⟩
  · intro h0; rw [hcl] at h0; omega
  · rw [hcl]; omega
  · rw [hcl]; omega
  · have o1 : Only (fun k => k = b) w wr := ho.mono (fun _ h => h.elim)
    exact ha.only ((o1.setCell (p := ⟨b, 0, none⟩) (.inl rfl) _).setCell (p := ⟨b, 1, none⟩) (.inl rfl) _)

end Go.Proofs.Ytflcdbefakjcbaa
