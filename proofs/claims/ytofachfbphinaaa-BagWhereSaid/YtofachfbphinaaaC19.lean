/- The contracts of the document's Put and Drop. -/
import Derived.Test.YtofachfbphinaaaC18
namespace Go.Proofs.Ytofachfbphinaaa
open Go.RowKit Go.Gav Go.BigFrame

theorem insM_done (ys zs : List (Int × Int)) (x : Int × Int) (h : ∃ y ∈ ys, x.1 < y.1) : insBM (ys ++ zs) x = insBM ys x ++ zs := by
  induction ys with
  | nil => obtain ⟨_, h, _⟩ := h; cases h
  | cons y ys ih =>
    simp only [List.cons_append, insBM]
    split
    · rename_i hle
      obtain ⟨z, hz, hlt⟩ := h
      rcases List.mem_cons.1 hz with rfl | hz
      · omega
      · rw [ih ⟨z, hz, hlt⟩]; rfl
    · rfl

theorem insM_here (ys : List (Int × Int)) (z x : Int × Int) (h : ∀ y ∈ ys, y.1 ≤ x.1) (hz : x.1 < z.1) : insBM (ys ++ [z]) x = ys ++ [x] ++ [z] := by
  induction ys with
  | nil => simp only [List.nil_append, insBM]; rw [if_neg (by omega)]; try rfl
  | cons y ys ih =>
    simp only [List.cons_append, insBM, if_pos (h y (by simp))]
    rw [ih (fun w hw => h w (by simp [hw]))]

/-- What the loop of Put holds when i items are through. -/
def PutI (ms : List (Int × Int)) (x : Int × Int) (i : Nat) (d : Bool) (out : List (Int × Int)) : Prop :=
  (d = false ∧ (∀ y ∈ ms.take i, y.1 ≤ x.1) ∧ out = ms.take i) ∨ (d = true ∧ (∃ y ∈ ms.take i, x.1 < y.1) ∧ out = insBM (ms.take i) x)

theorem take_snoc (ms : List (Int × Int)) (i : Nat) (h : i < ms.length) : ms.take (i + 1) = ms.take i ++ [ms.getD i (0, 0)] := by
  rw [List.take_succ_eq_append_getElem h]
  simp [List.getD_eq_getElem?_getD, h]

theorem PutI.here {ms : List (Int × Int)} {x : Int × Int} {i : Nat} {out : List (Int × Int)} (h : PutI ms x i false out) (hi : i < ms.length) (hx : x.1 < (ms.getD i (0, 0)).1) : PutI ms x (i + 1) true (out ++ [x] ++ [ms.getD i (0, 0)]) := by
  rcases h with ⟨_, h1, h2⟩ | ⟨h, _⟩
  · refine .inr ⟨rfl, ⟨_, by rw [take_snoc ms i hi]; simp, hx⟩, ?_⟩
    rw [take_snoc ms i hi, insM_here _ _ _ h1 hx, h2]
  · cases h

theorem PutI.on {ms : List (Int × Int)} {x : Int × Int} {i : Nat} {d : Bool} {out : List (Int × Int)} (h : PutI ms x i d out) (hi : i < ms.length) (hx : d = false → (ms.getD i (0, 0)).1 ≤ x.1) : PutI ms x (i + 1) d (out ++ [ms.getD i (0, 0)]) := by
  rcases h with ⟨h0, h1, h2⟩ | ⟨h0, h1, h2⟩
  · refine .inl ⟨h0, fun y hy => ?_, by rw [take_snoc ms i hi, h2]⟩
    rw [take_snoc ms i hi] at hy
    rcases List.mem_append.1 hy with hy | hy
    · exact h1 y hy
    · simp at hy; rw [hy]; simpa using hx h0
  · refine .inr ⟨h0, ?_, by rw [take_snoc ms i hi, insM_done _ _ _ h1, h2]⟩
    obtain ⟨y, hy, hlt⟩ := h1
    exact ⟨y, by rw [take_snoc ms i hi]; simp [hy], hlt⟩

theorem PutI.end0 {ms : List (Int × Int)} {x : Int × Int} {out : List (Int × Int)} (h : PutI ms x ms.length false out) : out ++ [x] = insBM ms x := by
  rcases h with ⟨_, h1, h2⟩ | ⟨h, _⟩
  · rw [List.take_length] at h1 h2
    rw [h2, insBM_end _ _ h1]
  · cases h
theorem PutI.end1 {ms : List (Int × Int)} {x : Int × Int} {out : List (Int × Int)} (h : PutI ms x ms.length true out) : out = insBM ms x := by
  rcases h with ⟨h, _⟩ | ⟨_, _, h2⟩
  · cases h
  · rw [List.take_length] at h2
    exact h2

theorem PutI.len {ms : List (Int × Int)} {x : Int × Int} {i : Nat} {d : Bool} {out : List (Int × Int)} (h : PutI ms x i d out) (hi : i ≤ ms.length) : out.length ≤ i + 1 := by
  rcases h with ⟨_, _, h2⟩ | ⟨_, _, h2⟩
  · rw [h2, List.length_take]; omega
  · rw [h2, insBM_length, List.length_take]; omega

theorem flatM_app1 (ys : List (Int × Int)) (x : Int × Int) : flatM (ys ++ [x]) = flatM ys ++ [.int .i64 x.1, .int .i64 x.2] := by
  rw [flatM_append]; rfl

theorem lies1 (w : World) (a b : Int) : ∀ j u, [Value.int .i64 a, .int .i64 b][j]? = some u → (w.alloc (Obj.cells #[Value.int .i64 a, .int .i64 b] 49)).cell? ((⟨w.heap.size, 0, none⟩ : Addr).add j) = some u :=
  liesM (cs := [Value.int .i64 a, .int .i64 b]) (heap_alloc_new w (Obj.cells #[Value.int .i64 a, .int .i64 b] 49))

theorem rstep {w0 wr W wd : World} {B : Nat} {vo vd : Value} {out : List (Int × Int)} {y : Int × Int} {nb : Obj} (hO : Only (fun _ => False) w0 wr) (hW : Only (fun _ => False) wr W) (own : wr.ownsRow B 49 2 vo out.length (flatM out)) (hB : w0.heap.size ≤ B)
    (ownd : wd.ownsRow B 49 2 vd (out.length + 1) (flatM out ++ [.int .i64 y.1, .int .i64 y.2])) (hg : (W.alloc nb).grownBy wd vo.ownBlock) : Only (fun _ => False) w0 wd ∧ wd.ownsRow B 49 2 vd (out ++ [y]).length (flatM (out ++ [y])) := by
  refine ⟨((hO.trans hW (fun _ _ h => h)).alloc nb).grown hg (fun k hk => .inr ?_), by rw [flatM_app1, List.length_append]; exact ownd⟩
  have := (own.lt k hk).1
  omega

theorem row_base {w : World} {B B' e k n : Nat} {v : Value} {xs : List Value} (hB : B ≤ B') (h : w.ownsRow B' e k v n xs) : w.ownsRow B e k v n xs :=
  ⟨h.1, h.2.imp id (fun ⟨g, cap, cur, a, b, c⟩ => ⟨g, cap, cur, a, Nat.le_trans hB b, c⟩)⟩

set_option maxRecDepth 100000 in
set_option maxHeartbeats 4000000 in
theorem rput_at (ms : List (Int × Int)) (x : Int × Int) (ao : Option Addr) (cap : Nat) (w : World) (hm : ReadsM w ao ms.length (fun i => ms.getD i (0, 0))) (hn : ms.length ≤ 1000) :
    Calls Try.prog 24 #[.slice ao ms.length cap, .agg #[.int .i64 x.1, .int .i64 x.2]] w fun e w' => ∃ v', e = .returned v' ∧ w'.ownsRow w.heap.size 49 2 v' (ms.length + 1) (flatM (insBM ms x)) ∧ Only (fun _ => False) w w' := by
  obtain ⟨i0, hi0, hz0, hz1, hz2⟩ := info_parts info49
  have HM := Lib.hid hm
  clear hm
  go_enter Try.func24, Try.ntmps24
  go_wp2
  have HA := Lib.hid ((Only.refl (fun _ => False) w).alloc (Obj.cells #[Value.int .i64 x.1, .int .i64 x.2] 49))
  have HC := Lib.hid (two_cells (heap_alloc_new w (Obj.cells #[Value.int .i64 x.1, .int .i64 x.2] 49)))
  go_loopw [5, 6, 7] (fun vo vd vi wr => ∃ (i : Nat) (d : Bool) (out : List (Int × Int)), vd = .bool d ∧ vi = .int .i64 i ∧ i ≤ ms.length ∧ Hid (PutI ms x i d out) ∧ Hid (wr.ownsRow (w.heap.size + 1) 49 2 vo out.length (flatM out)) ∧ Hid (Only (fun _ => False) (w.alloc (Obj.cells #[Value.int .i64 x.1, .int .i64 x.2] 49)) wr)) (fun _ _ vi _ => ms.length - (intOf vi).toNat)
  case atStart => exact ⟨0, false, [], rfl, rfl, Nat.zero_le _, .inl ⟨rfl, (fun y hy => by simp at hy), rfl⟩, World.ownsRow_nil _ _ _ _, Only.refl _ _⟩
  case round =>
    obtain ⟨i, d, out, rfl, rfl, hil, HI, HR, HO⟩ := hrel
    have ho : out.length ≤ 1001 := by have := HI.out.len hil; omega
    have x0 := HO.out.cell HC.out.1 id
    have x1 := HO.out.cell HC.out.2 id
    by_cases hlt : i < ms.length
    · obtain ⟨g, rfl, hcx⟩ := HM.out (by omega)
      obtain ⟨y, hye⟩ : ∃ y, y = ms.getD i (0, 0) := ⟨_, rfl⟩
      have y0 : wr.cell? ⟨g, i * 2, none⟩ = some (.int .i64 y.1) := by rw [hye]; exact HO.out.cell (HA.out.cell (hcx i hlt).1 id) id
      have y1 : wr.cell? ⟨g, i * 2 + 1, none⟩ = some (.int .i64 y.2) := by rw [hye]; exact HO.out.cell (HA.out.cell (hcx i hlt).2 id) id
      have HYC := Lib.hid (show ∀ W, Only (fun _ => False) (w.alloc (Obj.cells #[Value.int .i64 x.1, .int .i64 x.2] 49)) W → W.cell? ⟨g, i * 2, none⟩ = some (.int .i64 y.1) ∧ W.cell? ⟨g, i * 2 + 1, none⟩ = some (.int .i64 y.2) from fun W hW => by
        rw [hye]; exact ⟨hW.cell (HA.out.cell (hcx i hlt).1 id) id, hW.cell (HA.out.cell (hcx i hlt).2 id) id⟩)
      have HE := Lib.hid hye
      clear hcx hye
      cases d with
      | true =>
        go_wp2_with (fail)
        go_quiet (fail)
        go_wp2_with (first | (at_builtin; refine wpList_append_own _ rfl (.tmp 30) (.tmp 35) 51 rfl (w.heap.size + 1) 49 i0 (.agg #[.int .i64 0, .int .i64 0]) 2 16 Try.underlying51 hi0 hz0 hz1 hz2 rfl (by decide) u5 (out).length (flatM (out)) rfl (row_onlyB HR.out (((Only.refl (fun _ => False) wr).drewN _).alloc _) (fun _ _ h => h)) ⟨_, 0, none⟩ 1 1 [.int .i64 y.1, .int .i64 y.2] rfl rfl (lies1 (wr.drewN _) y.1 y.2) (ones2 y.1 y.2) (by unfold maxLen; omega) (by omega) (by have := HO.out.size; simp at this ⊢; omega) ?_; intro vd wd ownd hgrd _; have OWND := Lib.hid ownd; have GD : Hid (World.grownBy _ wd u5.ownBlock) := hgrd; clear ownd hgrd))
        go_roundw
        case rel =>
          obtain ⟨hO, hR⟩ := rstep HO.out (((Only.refl (fun _ => False) wr).drewN _)) HR.out (by simp) OWND.out GD.out
          exact ⟨i + 1, true, out ++ [y], rfl, by go_num, by omega, by rw [HE.out]; exact HI.out.on hlt (fun h => by cases h), hR, hO⟩
        case measure => simp [intOf]; omega
      | false =>
        by_cases hgt : x.1 < y.1
        · have HGT := Lib.hid hgt
          have hg1 : decide (x.1 < y.1) = true := by simpa using hgt
          have HLO := Lib.hid (show ∀ z, (out ++ [z]).length ≤ 1002 from fun z => by simp; omega)
          go_wp2_with (fail)
          go_region_held3 (fun w' => w'.cell? ⟨g, i * 2, none⟩ = some (.int .i64 y.1) ∧ w'.cell? ⟨w.heap.size, 0, none⟩ = some (.int .i64 x.1)) (exact ⟨y0, x0⟩) (fail)
          go_wp2_with (first | (at_builtin; refine wpList_append_own _ rfl (.tmp 26) (.tmp 28) 51 rfl (w.heap.size + 1) 49 i0 (.agg #[.int .i64 0, .int .i64 0]) 2 16 Try.underlying51 hi0 hz0 hz1 hz2 rfl (by decide) u5 (out).length (flatM (out)) rfl (row_onlyB HR.out (((Only.refl (fun _ => False) wr).drewN _).alloc _) (fun _ _ h => h)) ⟨_, 0, none⟩ 1 1 [.int .i64 x.1, .int .i64 x.2] rfl rfl (lies1 (wr.drewN _) x.1 x.2) (ones2 x.1 x.2) (by unfold maxLen; omega) (by omega) (by have := HO.out.size; simp at this ⊢; omega) ?_; intro vd wd ownd hgrd _; have OWND := Lib.hid ownd; have GD : Hid (World.grownBy _ wd u5.ownBlock) := hgrd; clear ownd hgrd; obtain ⟨hO1, hR1⟩ := rstep (B := w.heap.size + 1) HO.out ((Only.refl (fun _ => False) wr).drewN _) HR.out (by simp) OWND.out GD.out; obtain ⟨y0d, y1d⟩ := HYC.out wd hO1; have HO1 := Lib.hid hO1; have HR1 := Lib.hid hR1; have ho1 := HLO.out x; clear hO1 hR1) | (at_builtin; refine wpList_append_own _ rfl (.tmp 30) (.tmp 35) 51 rfl (w.heap.size + 1) 49 i0 (.agg #[.int .i64 0, .int .i64 0]) 2 16 Try.underlying51 hi0 hz0 hz1 hz2 rfl (by decide) vd (out ++ [x]).length (flatM (out ++ [x])) rfl (row_onlyB HR1.out ((Only.refl (fun _ => False) wd).alloc _) (fun _ _ h => h)) ⟨_, 0, none⟩ 1 1 [.int .i64 y.1, .int .i64 y.2] rfl rfl (lies1 wd y.1 y.2) (ones2 y.1 y.2) (by unfold maxLen; omega) (by omega) (by have := HO1.out.size; simp at this ⊢; omega) ?_; intro vd2 wd2 ownd2 hgrd2 _; have OWND2 := Lib.hid ownd2; have GD2 : Hid (World.grownBy _ wd2 vd.ownBlock) := hgrd2; clear ownd2 hgrd2))
          go_roundw
          case rel =>
            obtain ⟨hO, hR⟩ := rstep HO1.out (Only.refl (fun _ => False) wd) HR1.out (by simp) OWND2.out GD2.out
            exact ⟨i + 1, true, out ++ [x] ++ [y], rfl, by go_num, by omega, by rw [HE.out]; exact HI.out.here hlt (by rw [← HE.out]; exact HGT.out), hR, hO⟩
          case measure => simp [intOf]; omega
        · have HGT := Lib.hid hgt
          have hg1 : decide (x.1 < y.1) = false := by simpa using hgt
          clear hgt
          go_wp2_with (fail)
          go_region_held3 (fun w' => w'.cell? ⟨g, i * 2, none⟩ = some (.int .i64 y.1) ∧ w'.cell? ⟨w.heap.size, 0, none⟩ = some (.int .i64 x.1)) (exact ⟨y0, x0⟩) (fail)
          go_wp2_with (first | (at_builtin; refine wpList_append_own _ rfl (.tmp 30) (.tmp 35) 51 rfl (w.heap.size + 1) 49 i0 (.agg #[.int .i64 0, .int .i64 0]) 2 16 Try.underlying51 hi0 hz0 hz1 hz2 rfl (by decide) u5 (out).length (flatM (out)) rfl (row_onlyB HR.out (((Only.refl (fun _ => False) wr).drewN _).alloc _) (fun _ _ h => h)) ⟨_, 0, none⟩ 1 1 [.int .i64 y.1, .int .i64 y.2] rfl rfl (lies1 (wr.drewN _) y.1 y.2) (ones2 y.1 y.2) (by unfold maxLen; omega) (by omega) (by have := HO.out.size; simp at this ⊢; omega) ?_; intro vd wd ownd hgrd _; have OWND := Lib.hid ownd; have GD : Hid (World.grownBy _ wd u5.ownBlock) := hgrd; clear ownd hgrd))
          go_roundw
          case rel =>
            obtain ⟨hO, hR⟩ := rstep HO.out (((Only.refl (fun _ => False) wr).drewN _)) HR.out (by simp) OWND.out GD.out
            exact ⟨i + 1, false, out ++ [y], rfl, by go_num, by omega, by rw [HE.out]; exact HI.out.on hlt (fun _ => by have := HGT.out; rw [← HE.out]; omega), hR, hO⟩
          case measure => simp [intOf]; omega
    · obtain rfl : i = ms.length := by omega
      cases d with
      | true =>
        go_wp2
        go_ret
        have hE := HI.out.end1
        refine ⟨u5, rfl, ?_, HA.out.trans HO.out (fun _ _ h => h)⟩
        have hR := HR.out
        rw [hE, insBM_length] at hR
        exact row_base (by omega) hR
      | false =>
        go_wp2_with (first | (at_builtin; refine wpList_append_own _ rfl (.tmp 39) (.tmp 41) 51 rfl (w.heap.size + 1) 49 i0 (.agg #[.int .i64 0, .int .i64 0]) 2 16 Try.underlying51 hi0 hz0 hz1 hz2 rfl (by decide) u5 (out).length (flatM (out)) rfl (row_onlyB HR.out ((Only.refl (fun _ => False) wr).alloc _) (fun _ _ h => h)) ⟨_, 0, none⟩ 1 1 [.int .i64 x.1, .int .i64 x.2] rfl rfl (lies1 wr x.1 x.2) (ones2 x.1 x.2) (by unfold maxLen; omega) (by omega) (by have := HO.out.size; simp at this ⊢; omega) ?_; intro vd wd ownd hgrd _; have OWND := Lib.hid ownd; have GD : Hid (World.grownBy _ wd u5.ownBlock) := hgrd; clear ownd hgrd))
        go_ret
        have hE := HI.out.end0
        obtain ⟨hO, hR⟩ := rstep HO.out (Only.refl (fun _ => False) wr) HR.out (by simp) OWND.out GD.out
        refine ⟨_, rfl, ?_, HA.out.trans hO (fun _ _ h => h)⟩
        rw [hE, insBM_length] at hR
        exact row_base (by omega) hR

end Go.Proofs.Ytofachfbphinaaa
