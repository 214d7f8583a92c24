/- The contract of slices.Values at entries. -/
import Derived.Test.YtnhiohgcoifniaaS1
import Derived.Test.YtnhiohgcoifniaaK1
import Derived.Test.YtnhiohgcoifniaaRng2
import Derived.Deep.Cut
namespace Go.Proofs.Ytnhiohgcoifniaa
open Go.RowKit Go.Gav Go.BigFrame Go.Shelf
attribute [local go_sem] Oper.semAt_some

/-- A slice's cells read as entries. -/
def CellsE (w : World) (ao : Option Addr) (L : List En) : Prop :=
  0 < L.length → ∃ g, ao = some ⟨g, 0, none⟩ ∧ ∀ i, i < L.length → w.cell? ⟨g, i * 2, none⟩ = some (.int .i64 (atE L i).1) ∧ w.cell? ⟨g, i * 2 + 1, none⟩ = some (.int .i64 (atE L i).2)

theorem CellsE.only {S : Nat → Prop} {w w' : World} {ao : Option Addr} {L : List En} (h : CellsE w ao L) (ho : Only S w w') (hS : ∀ g, ao = some ⟨g, 0, none⟩ → ¬ S g) : CellsE w' ao L := by
  intro h0
  obtain ⟨g, e, hc⟩ := h h0
  exact ⟨g, e, fun i hi => ⟨ho.cell (hc i hi).1 (hS g e), ho.cell (hc i hi).2 (hS g e)⟩⟩

theorem CellsE.keptT {T : Nat → Prop} {w w' : World} {ao : Option Addr} {L : List En} (h : CellsE w ao L) (ho : KeptT T w w') (hS : ∀ g, ao = some ⟨g, 0, none⟩ → T g) : CellsE w' ao L := by
  intro h0
  obtain ⟨g, e, hc⟩ := h h0
  exact ⟨g, e, fun i hi => ⟨(World.cell?_of_block (ho _ (hS g e))).trans (hc i hi).1, (World.cell?_of_block (ho _ (hS g e))).trans (hc i hi).2⟩⟩

theorem values_call (v : Value) (hv : ∃ ao n cap, v = .slice ao n cap) (w : World) :
    Calls Try.prog 35 #[v] w fun e w' => e = .returned (.func (.func 39) #[] #[.pointer (some ⟨w.heap.size, 0, none⟩)]) ∧ w' = w.alloc (.cells #[v] 51) := by
  obtain ⟨ao, n, cap, rfl⟩ := hv
  go_enter Try.func35, Try.ntmps35
  go_wp2
  go_ret
  exact ⟨rfl, rfl⟩

set_option maxRecDepth 100000 in
set_option maxHeartbeats 1000000 in
theorem values_iter (bx : Nat) (ao : Option Addr) (cap : Nat) (L : List En) (w : World) (hbx : w.cell? ⟨bx, 0, none⟩ = some (.slice ao L.length cap)) (hr : CellsE w ao L) (hn : L.length ≤ 1000) :
    IterS Try.prog 39 #[.pointer (some ⟨bx, 0, none⟩)] encE L w (fun k => ao = some ⟨k, 0, none⟩) := by
  intro l W hW R H
  have hc := hW.cell hbx id
  have HR := Lib.hid (hr.only hW (fun _ _ => id))
  obtain ⟨J, Jx, hJ0, hJs, hJxs, hY, hJd, hJxd⟩ := H W (Only.refl _ _)
  have HJ0 := Lib.hid hJ0
  have HY := Lib.hid hY
  have HJd := Lib.hid hJd
  have HJxd := Lib.hid hJxd
  clear hbx hW hr H hJ0 hJs hJxs hY hJd hJxd
  show Calls Try.prog 39 #[.func (.yield l) #[] #[], .pointer (some ⟨bx, 0, none⟩)] W _
  go_enter Try.func39, Try.ntmps39
  go_wp2
  go_loopw [7] (fun vi wr => ∃ i : Nat, i ≤ L.length ∧ vi = .int .i64 i ∧ Hid (J i wr) ∧ Hid (CellsE wr ao L)) (fun vi _ => L.length - (intOf vi).toNat)
  case atStart => exact ⟨0, Nat.zero_le _, rfl, HJ0.out, HR.out⟩
  case round =>
    clear HJ0 hc HR
    obtain ⟨i, hi, rfl, HJ, HR⟩ := hrel
    by_cases hlt : i < L.length
    · obtain ⟨g, rfl, hcell⟩ := HR.out (by omega)
      obtain ⟨x, hx⟩ : ∃ x, x = atE L i := ⟨_, rfl⟩
      have d0 : wr.cell? ⟨g, i * 2, none⟩ = some (.int .i64 x.1) := by rw [hx]; exact (hcell i hlt).1
      have d1 : wr.cell? ⟨g, i * 2 + 1, none⟩ = some (.int .i64 x.2) := by rw [hx]; exact (hcell i hlt).2
      have o3 : ∀ S, Only S wr (wr.alloc (Obj.cells #[Value.int .i64 x.1, .int .i64 x.2] 40)) := fun S => (Only.refl _ _).alloc _
      obtain ⟨z0, z1⟩ := two_cells (heap_alloc_new wr (Obj.cells #[Value.int .i64 x.1, .int .i64 x.2] 40))
      obtain ⟨fn, tmps, assign, body, hy, hR⟩ := HY.out i hlt wr _ HJ.out (o3 _)
      have hxi : L[i] = x := by rw [hx]; simp [atE, List.getD_eq_getElem?_getD, hlt]
      rw [hxi] at hy
      simp only [encE] at hy
      have HRR := Lib.hid hR
      have HO3 := Lib.hid (o3 (fun _ => False))
      clear hcell hR hxi hx o3
      go_upto_region 3 with fail
      refine (wpIn_wide (n := 0)).1 ?_
      gi_wp2
      refine ⟨rfl, HRR.out.mono ?_⟩
      rintro e W3 (⟨rfl, hk3, hj3⟩ | ⟨rfl, hk3, hx3⟩)
      · have HJ3 := Lib.hid hj3
        have HR3 := Lib.hid ((HR.out.only HO3.out (fun _ _ => id)).keptT hk3 (fun g' e => .inl e))
        clear hk3 hj3 hy HRR
        gi_wp2
        go_wp2
        go_roundw
        case rel => exact ⟨i + 1, by omega, by go_num, HJ3, HR3⟩
        case measure => simp [intOf]; omega
      · have HX3 := Lib.hid hx3
        clear hk3 hx3 hy HRR
        gi_wp2
        go_wp2
        exact bodyPost_ret (results_none rfl _ _ _) rfl ⟨⟨_, rfl⟩, HJxd.out _ HX3.out⟩
    · obtain rfl : i = L.length := by omega
      go_wp2
      go_end0
      exact ⟨⟨_, rfl⟩, HJd.out _ HJ.out⟩

end Go.Proofs.Ytnhiohgcoifniaa
