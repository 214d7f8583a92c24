/- The law's example: it is as the document has it. -/
import Derived.Test.YtmoemnfflbielaaDoorT7
namespace Go.Proofs.YtmoemnfflbielaaDoor
open Go.RowKit Go.Gav Go.BigFrame Go.Shelf

def wakeT : List Tok := [⟨0, ⟨#[120]⟩, 0, 0⟩, ⟨3, ⟨#[60, 61]⟩, 0, 1⟩, ⟨1, ⟨#[]⟩, 1, 3⟩, ⟨4, ⟨#[]⟩, 0, 7⟩]

theorem wake_scan : scanR ⟨#[120, 60, 61, 49, 32, 35, 121]⟩ = (wakeT, 0, 0) := by kernel_rfl

theorem ReadT.of_row {w : World} {b : Nat} {t : TypeId} {ts : List Tok} {cs : Array Value} (h : w.heap[b]? = some (.cells cs t (0, 0))) (hc : cs = (flatT ts).toArray) (n c : Nat) (hn : n = ts.length) : ReadT w (.slice (some ⟨b, 0, none⟩) n c) ts := by
  subst hn hc
  refine ⟨_, c, rfl, fun _ => ⟨b, rfl, fun i hi j x hx => ?_⟩⟩
  rw [cell_of_row w _ _ _ _ _ h]
  have := flatT_get ts i j x hi hx
  simpa using this

set_option maxRecDepth 100000 in
set_option maxHeartbeats 1000000 in
theorem awake_true (w : World) (hm : MarksAt w) : Calls Tryd.prog 7 #[] w fun e w' => e = .returned (.bool true) ∧ Only (fun _ => False) w w' := by
  have HS := Lib.hid (scan_at ⟨#[120, 60, 61, 49, 32, 35, 121]⟩ (by decide) w hm)
  rw [wake_scan] at HS
  have HS2 : Hid (Calls Tryd.prog 8 #[.string ⟨#[120, 60, 61, 49, 32, 35, 121]⟩] w fun e w' => ∃ v, e = .returned (.tuple #[v, .int .i64 0, .int .i64 0]) ∧ w'.ownsRow w.heap.size 28 4 v 4 (flatT wakeT) ∧ Only (fun _ => False) w w') := HS.out
  clear HS hm
  go_enter Tryd.func7, Tryd.ntmps7
  go_wp2_with (fail)
  refine HS2.out.mono ?_
  rintro _ w1 ⟨v, rfl, h1, o1⟩
  have H1 := Lib.hid (ReadT.of_owns h1).2
  have O1 := Lib.hid o1
  clear h1 o1 HS2
  go_wp2_with (fail)
  refine (plain_at v wakeT _ H1.out (by decide)).mono ?_
  rintro _ w2 ⟨v2, rfl, h2, o2⟩
  have H2 := Lib.hid (ReadT.of_owns h2).2
  have O2 := Lib.hid (O1.out.trans o2 (fun _ _ h => h))
  clear h2 o2 O1 H1
  go_wp2_with (fail)
  refine (same_at v2 _ wakeT _ (H2.out.only ((Only.refl (fun _ => False) w2).alloc _) (fun _ _ => id)) (ReadT.of_row (heap_alloc_new w2 _) rfl 4 4 rfl) (by decide)).mono ?_
  rintro _ w3 ⟨rfl, o3⟩
  have O3 := Lib.hid ((O2.out.alloc _).trans o3 (fun _ _ h => h))
  clear o3
  go_wp2
  go_ret
  exact ⟨rfl, O3.out⟩

end Go.Proofs.YtmoemnfflbielaaDoor
