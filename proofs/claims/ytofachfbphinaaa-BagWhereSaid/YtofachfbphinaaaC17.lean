/- The contract of list. -/
import Derived.Test.YtofachfbphinaaaC16
import Derived.Laws.AppendOwn
namespace Go.Proofs.Ytofachfbphinaaa
open Go.RowKit Go.Gav Go.BigFrame

theorem flatM_snoc (xs : List (Int × Int)) (i : Nat) (h : i < xs.length) : flatM (xs.take (i + 1)) = flatM (xs.take i) ++ [.int .i64 (xs.getD i (0, 0)).1, .int .i64 (xs.getD i (0, 0)).2] := by
  rw [List.take_succ_eq_append_getElem h, flatM_append]
  simp [List.getD_eq_getElem?_getD, h, flatM]

theorem row_onlyB {S : Nat → Prop} {w w' : World} {B e k n : Nat} {v : Value} {xs : List Value} (h : w.ownsRow B e k v n xs) (ho : Only S w w') (hS : ∀ g, v.ownBlock = some g → ¬ S g) : w'.ownsRow B e k v n xs := by
  refine ⟨h.1, ?_⟩
  rcases h.2 with hn | ⟨g, cap, cur, hv, hb, hg, rest⟩
  · exact .inl hn
  · exact .inr ⟨g, cap, cur, hv, hb, ho.keep hg (hS g (by rw [hv]; rfl)), rest⟩

theorem lies2 (w : World) (o : Obj) (a b : Int) : ∀ j u, [Value.int .i64 a, .int .i64 b][j]? = some u → ((w.alloc o).alloc (Obj.cells #[Value.int .i64 a, .int .i64 b] 49)).cell? ((⟨w.heap.size + 1, 0, none⟩ : Addr).add j) = some u := by
  have := liesM (cs := [Value.int .i64 a, .int .i64 b]) (heap_alloc_new (w.alloc o) (Obj.cells #[Value.int .i64 a, .int .i64 b] 49))
  simpa using this

theorem ones2 (a b : Int) : ∀ u ∈ [Value.int .i64 a, .int .i64 b], u.oneCell' = true := by
  intro u hu
  simp at hu
  rcases hu with rfl | rfl <;> rfl

set_option maxRecDepth 100000 in
set_option maxHeartbeats 1000000 in
theorem list_at (b : Nat) (v : Value) (xs : List (Int × Int)) (w : World) (h : BagM w b v xs) (hn : xs.length ≤ 1000) :
    Calls Try.prog 32 #[.pointer (some ⟨b, 0, none⟩)] w fun e w' => ∃ v', e = .returned v' ∧ w'.ownsRow w.heap.size 49 2 v' xs.length (flatM xs) ∧ Only (fun _ => False) w w' := by
  obtain ⟨i0, hi0, hz0, hz1, hz2⟩ := info_parts info49
  have HB := Lib.hid h
  clear h
  go_enter Try.func32, Try.ntmps32
  go_wp2
  go_loopw [3, 4] (fun v3 v4 wr => ∃ i : Nat, v4 = .int .i64 i ∧ i ≤ xs.length ∧ Hid (wr.ownsRow w.heap.size 49 2 v3 i (flatM (xs.take i))) ∧ Hid (Only (fun _ => False) w wr)) (fun _ v4 _ => xs.length - (intOf v4).toNat)
  case atStart => exact ⟨0, rfl, Nat.zero_le _, World.ownsRow_nil _ _ _ _, Only.refl _ _⟩
  case round =>
    obtain ⟨i, rfl, hil, HR, HO⟩ := hrel
    by_cases hlt : i < xs.length
    · have hc : ((i : Int) < (xs.length : Int)) := by omega
      obtain ⟨x, hx⟩ : ∃ x, x = xs.getD i (0, 0) := ⟨_, rfl⟩
      have HX := Lib.hid hx
      have HS := Lib.hid (flatM_snoc xs i hlt)
      have HAT := Lib.hid (fun W (hW : Only (fun _ => False) w W) => hx ▸ atM b v xs i W (HB.out.only hW id (fun _ _ => id)) hlt)
      clear hx
      go_wp2_with (first | (go_at_call 34; refine (lenM b v xs _ (HB.out.only HO.out id (fun _ _ => id))).mono ?_; rintro _ _ ⟨rfl, rfl⟩) | (go_at_call 29; refine (HAT.out _ HO.out).mono ?_; rintro _ w1 ⟨rfl, o1⟩; have z0 := (two_cells (heap_alloc_new w1 (Obj.cells #[Value.int .i64 x.1, .int .i64 x.2] 49))).1; have z1 := (two_cells (heap_alloc_new w1 (Obj.cells #[Value.int .i64 x.1, .int .i64 x.2] 49))).2) | (at_builtin; refine wpList_append_own _ rfl (.tmp 19) (.tmp 21) 51 rfl w.heap.size 49 i0 (.agg #[.int .i64 0, .int .i64 0]) 2 16 Try.underlying51 hi0 hz0 hz1 hz2 rfl (by decide) u3 i (flatM (xs.take i)) rfl (row_onlyB HR.out ((o1.alloc _).alloc _) (fun _ _ h => h)) ⟨w1.heap.size + 1, 0, none⟩ 1 1 [.int .i64 x.1, .int .i64 x.2] rfl rfl (lies2 w1 _ x.1 x.2) (ones2 x.1 x.2) (by unfold maxLen; omega) (by omega) (by have h1 := HO.out.size; have h2 := o1.size; simp; omega) ?_; intro vd wd ownd hgrd _; have OWND := Lib.hid ownd; have GD : Hid (World.grownBy _ wd u3.ownBlock) := hgrd; clear ownd hgrd))
      go_roundw
      case rel =>
        refine ⟨i + 1, by go_num, by omega, ?_, ?_⟩
        · rw [HS.out, ← HX.out]; exact OWND.out
        · exact ((((HO.out.trans o1 (fun _ _ h => h)).alloc _).alloc _).grown GD.out (fun k hk => .inr ((HR.out.lt k hk).1)))
      case measure => simp [intOf]; omega
    · obtain rfl : i = xs.length := by omega
      have hc : ¬ ((xs.length : Int) < (xs.length : Int)) := by omega
      go_wp2_with (first | (go_at_call 34; refine (lenM b v xs _ (HB.out.only HO.out id (fun _ _ => id))).mono ?_; rintro _ _ ⟨rfl, rfl⟩))
      go_ret
      exact ⟨u3, rfl, by have := HR.out; rwa [List.take_length] at this, HO.out⟩

end Go.Proofs.Ytofachfbphinaaa
