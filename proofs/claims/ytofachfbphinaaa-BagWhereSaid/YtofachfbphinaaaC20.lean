/- The contract of the document's Drop. -/
import Derived.Test.YtofachfbphinaaaC19
namespace Go.Proofs.Ytofachfbphinaaa
open Go.RowKit Go.Gav Go.BigFrame

theorem dropM_key (xs : List (Int × Int)) (x : Int × Int) : dropBM xs (x.1, 0) = dropBM xs x := by
  induction xs with
  | nil => rfl
  | cons y ys ih => simp only [dropBM, ih]
theorem cntM_key (xs : List (Int × Int)) (x : Int × Int) : cntM xs (x.1, 0) = cntM xs x := rfl

theorem dropM_done (ys zs : List (Int × Int)) (x : Int × Int) (h : ∃ y ∈ ys, y.1 = x.1) : dropBM (ys ++ zs) x = dropBM ys x ++ zs := by
  induction ys with
  | nil => obtain ⟨_, h, _⟩ := h; cases h
  | cons y ys ih =>
    simp only [List.cons_append, dropBM]
    split
    · rfl
    · rename_i hne
      obtain ⟨z, hz, he⟩ := h
      rcases List.mem_cons.1 hz with rfl | hz
      · exact absurd he hne
      · rw [ih ⟨z, hz, he⟩]; rfl

theorem dropM_here (ys : List (Int × Int)) (z x : Int × Int) (h : ∀ y ∈ ys, ¬ y.1 = x.1) (hz : z.1 = x.1) : dropBM (ys ++ [z]) x = ys := by
  induction ys with
  | nil => simp only [List.nil_append, dropBM]; rw [if_pos hz]
  | cons y ys ih =>
    simp only [List.cons_append, dropBM, if_neg (h y (by simp))]
    rw [ih (fun w hw => h w (by simp [hw]))]

/-- What the loop of Drop holds when i items are through. -/
def DropI (ms : List (Int × Int)) (n : Int) (i : Nat) (d : Bool) (out : List (Int × Int)) : Prop :=
  (d = false ∧ (∀ y ∈ ms.take i, ¬ y.1 = n) ∧ out = ms.take i) ∨ (d = true ∧ (∃ y ∈ ms.take i, y.1 = n) ∧ out = dropBM (ms.take i) (n, 0))

theorem DropI.here {ms : List (Int × Int)} {n : Int} {i : Nat} {out : List (Int × Int)} (h : DropI ms n i false out) (hi : i < ms.length) (hx : (ms.getD i (0, 0)).1 = n) : DropI ms n (i + 1) true out := by
  rcases h with ⟨_, h1, h2⟩ | ⟨h, _⟩
  · refine .inr ⟨rfl, ⟨_, by rw [take_snoc ms i hi]; simp, hx⟩, ?_⟩
    rw [take_snoc ms i hi, dropM_here _ _ (n, 0) h1 hx, h2]
  · cases h

theorem DropI.on {ms : List (Int × Int)} {n : Int} {i : Nat} {d : Bool} {out : List (Int × Int)} (h : DropI ms n i d out) (hi : i < ms.length) (hx : d = false → ¬ (ms.getD i (0, 0)).1 = n) : DropI ms n (i + 1) d (out ++ [ms.getD i (0, 0)]) := by
  rcases h with ⟨h0, h1, h2⟩ | ⟨h0, h1, h2⟩
  · refine .inl ⟨h0, fun y hy => ?_, by rw [take_snoc ms i hi, h2]⟩
    rw [take_snoc ms i hi] at hy
    rcases List.mem_append.1 hy with hy | hy
    · exact h1 y hy
    · simp at hy; rw [hy]; simpa using hx h0
  · refine .inr ⟨h0, ?_, by rw [take_snoc ms i hi, dropM_done _ _ (n, 0) h1, h2]⟩
    obtain ⟨y, hy, hlt⟩ := h1
    exact ⟨y, by rw [take_snoc ms i hi]; simp [hy], hlt⟩

theorem DropI.fin {ms : List (Int × Int)} {n : Int} {d : Bool} {out : List (Int × Int)} (h : DropI ms n ms.length d out) : out = dropBM ms (n, 0) ∧ d = decide (cntM ms (n, 0) ≠ 0) := by
  rcases h with ⟨h, h1, h2⟩ | ⟨h, ⟨y, hy, he⟩, h2⟩
  · rw [List.take_length] at h1 h2
    have h0 : cntM ms (n, 0) = 0 := by
      unfold cntM
      rw [List.countP_eq_zero]
      intro y hy
      have := h1 y hy
      simpa using this
    rw [dropBM_none _ _ h0, h0]
    exact ⟨h2, h⟩
  · rw [List.take_length] at hy h2
    refine ⟨h2, ?_⟩
    rw [h]
    symm
    rw [decide_eq_true_iff]
    intro h0
    unfold cntM at h0
    rw [List.countP_eq_zero] at h0
    have := h0 y hy
    simp at this
    exact this he

theorem DropI.len {ms : List (Int × Int)} {n : Int} {i : Nat} {d : Bool} {out : List (Int × Int)} (h : DropI ms n i d out) (hi : i ≤ ms.length) : out.length ≤ i := by
  rcases h with ⟨_, _, h2⟩ | ⟨_, _, h2⟩
  · rw [h2, List.length_take]; omega
  · rw [h2]
    refine Nat.le_trans (dropBM_sub _ _).length_le ?_
    rw [List.length_take]
    omega

set_option maxRecDepth 100000 in
set_option maxHeartbeats 4000000 in
theorem rdrop_at (ms : List (Int × Int)) (n : Int) (ao : Option Addr) (cap : Nat) (w : World) (hm : ReadsM w ao ms.length (fun i => ms.getD i (0, 0))) (hn : ms.length ≤ 1000) :
    Calls Try.prog 25 #[.slice ao ms.length cap, .int .i64 n] w fun e w' => ∃ v', e = .returned (.tuple #[v', .bool (decide (cntM ms (n, 0) ≠ 0))]) ∧ w'.ownsRow w.heap.size 49 2 v' (dropBM ms (n, 0)).length (flatM (dropBM ms (n, 0))) ∧ Only (fun _ => False) w w' := by
  obtain ⟨i0, hi0, hz0, hz1, hz2⟩ := info_parts info49
  have HM := Lib.hid hm
  clear hm
  go_enter Try.func25, Try.ntmps25
  go_wp2
  go_loopw [6, 7, 8] (fun vo vd vi wr => ∃ (i : Nat) (d : Bool) (out : List (Int × Int)), vd = .bool d ∧ vi = .int .i64 i ∧ i ≤ ms.length ∧ Hid (DropI ms n i d out) ∧ Hid (wr.ownsRow w.heap.size 49 2 vo out.length (flatM out)) ∧ Hid (Only (fun _ => False) w wr)) (fun _ _ vi _ => ms.length - (intOf vi).toNat)
  case atStart => exact ⟨0, false, [], rfl, rfl, Nat.zero_le _, .inl ⟨rfl, (fun y hy => by simp at hy), rfl⟩, World.ownsRow_nil _ _ _ _, Only.refl _ _⟩
  case round =>
    obtain ⟨i, d, out, rfl, rfl, hil, HI, HR, HO⟩ := hrel
    have ho : out.length ≤ 1000 := by have := HI.out.len hil; omega
    by_cases hlt : i < ms.length
    · obtain ⟨g, rfl, hcx⟩ := HM.out (by omega)
      obtain ⟨y, hye⟩ : ∃ y, y = ms.getD i (0, 0) := ⟨_, rfl⟩
      have y0 : wr.cell? ⟨g, i * 2, none⟩ = some (.int .i64 y.1) := by rw [hye]; exact HO.out.cell (hcx i hlt).1 id
      have y1 : wr.cell? ⟨g, i * 2 + 1, none⟩ = some (.int .i64 y.2) := by rw [hye]; exact HO.out.cell (hcx i hlt).2 id
      have HE := Lib.hid hye
      clear hcx hye
      cases d with
      | true =>
        go_wp2_with (first | (at_builtin; refine wpList_append_own _ rfl (.tmp 26) (.tmp 31) 51 rfl w.heap.size 49 i0 (.agg #[.int .i64 0, .int .i64 0]) 2 16 Try.underlying51 hi0 hz0 hz1 hz2 rfl (by decide) u6 (out).length (flatM (out)) rfl (row_onlyB HR.out ((Only.refl (fun _ => False) wr).alloc _) (fun _ _ h => h)) ⟨_, 0, none⟩ 1 1 [.int .i64 y.1, .int .i64 y.2] rfl rfl (lies1 wr y.1 y.2) (ones2 y.1 y.2) (by unfold maxLen; omega) (by omega) (by have := HO.out.size; simp; omega) ?_; intro vd wd ownd hgrd _; have OWND := Lib.hid ownd; have GD : Hid (World.grownBy _ wd u6.ownBlock) := hgrd; clear ownd hgrd))
        go_roundw
        case rel =>
          obtain ⟨hO, hR⟩ := rstep HO.out (Only.refl (fun _ => False) wr) HR.out (Nat.le_refl _) OWND.out GD.out
          exact ⟨i + 1, true, out ++ [y], rfl, by go_num, by omega, by rw [HE.out]; exact HI.out.on hlt (fun h => by cases h), hR, hO⟩
        case measure => simp [intOf]; omega
      | false =>
        by_cases heq : y.1 = n
        · have HGT := Lib.hid heq
          have he : (y.1 == n) = true := by simpa using heq
          clear heq
          go_wp2
          go_roundw
          case rel => exact ⟨i + 1, true, out, rfl, by go_num, by omega, HI.out.here hlt (by rw [← HE.out]; exact HGT.out), HR, HO⟩
          case measure => simp [intOf]; omega
        · have HGT := Lib.hid heq
          have he : (y.1 == n) = false := by simpa using heq
          clear heq
          go_wp2_with (first | (at_builtin; refine wpList_append_own _ rfl (.tmp 26) (.tmp 31) 51 rfl w.heap.size 49 i0 (.agg #[.int .i64 0, .int .i64 0]) 2 16 Try.underlying51 hi0 hz0 hz1 hz2 rfl (by decide) u6 (out).length (flatM (out)) rfl (row_onlyB HR.out ((Only.refl (fun _ => False) wr).alloc _) (fun _ _ h => h)) ⟨_, 0, none⟩ 1 1 [.int .i64 y.1, .int .i64 y.2] rfl rfl (lies1 wr y.1 y.2) (ones2 y.1 y.2) (by unfold maxLen; omega) (by omega) (by have := HO.out.size; simp; omega) ?_; intro vd wd ownd hgrd _; have OWND := Lib.hid ownd; have GD : Hid (World.grownBy _ wd u6.ownBlock) := hgrd; clear ownd hgrd))
          go_roundw
          case rel =>
            obtain ⟨hO, hR⟩ := rstep HO.out (Only.refl (fun _ => False) wr) HR.out (Nat.le_refl _) OWND.out GD.out
            exact ⟨i + 1, false, out ++ [y], rfl, by go_num, by omega, by rw [HE.out]; exact HI.out.on hlt (fun _ => by rw [← HE.out]; exact HGT.out), hR, hO⟩
          case measure => simp [intOf]; omega
    · obtain rfl : i = ms.length := by omega
      have HF := Lib.hid HI.out.fin
      go_wp2
      go_ret2
      refine ⟨u6, ?_, ?_, HO.out⟩
      · rw [← HF.out.2]
        rfl
      · rw [← HF.out.1]
        exact HR.out

end Go.Proofs.Ytofachfbphinaaa
