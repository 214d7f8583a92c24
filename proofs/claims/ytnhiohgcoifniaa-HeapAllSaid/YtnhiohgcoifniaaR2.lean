/- The contract of the document's Del. -/
import Derived.Test.YtnhiohgcoifniaaR1
namespace Go.Proofs.Ytnhiohgcoifniaa
open Go.RowKit Go.Gav Go.BigFrame

theorem info33 : (Try.prog.info? 33).map (fun i => (i.zero, i.size, i.bytes)) = some (some (.agg #[.int .i64 0, .int .i64 0]), 2, 16) := by kernel_rfl

theorem delS_snoc_eq (S : List En) (k : Int) (x : En) (h : x.1 = k) : delS (S ++ [x]) k = delS S k := by simp [delS, h]
theorem delS_snoc_ne (S : List En) (k : Int) (x : En) (h : x.1 ≠ k) : delS (S ++ [x]) k = delS S k ++ [x] := by simp [delS, h]
theorem getS_snoc_some {S : List En} {k : Int} {x : En} (h : (getS S k).isSome = true) : (getS (S ++ [x]) k).isSome = true := by
  unfold getS at *
  rw [List.find?_append]
  cases e : S.find? (fun e => decide (e.1 = k)) with
  | none => rw [e] at h; simp at h
  | some y => simp
theorem getS_snoc_eq (S : List En) {k : Int} {x : En} (h : x.1 = k) : (getS (S ++ [x]) k).isSome = true := by
  unfold getS
  rw [List.find?_append]
  cases e : S.find? (fun e => decide (e.1 = k)) with
  | none => simp [h]
  | some y => simp
theorem getS_snoc_keep (S : List En) {k : Int} {x : En} (h : x.1 ≠ k) : (getS (S ++ [x]) k).isSome = (getS S k).isSome := by
  unfold getS
  rw [List.find?_append]
  cases e : S.find? (fun e => decide (e.1 = k)) with
  | none => simp [h]
  | some y => simp

set_option maxRecDepth 100000 in
set_option maxHeartbeats 2000000 in
theorem ref_del (v : Value) (base : Nat) (S : List En) (k : Int) (w : World) (h : ReadE w base v S) (hs : S.length ≤ 1000) :
    Calls Try.prog 13 #[v, .int .i64 k] w fun e w' => ∃ v', e = .returned (.tuple #[v', .bool (getS S k).isSome]) ∧ ReadE w' w.heap.size v' (delS S k) ∧ Only (fun _ => False) w w' := by
  obtain ⟨i0, hi0, hz0, hz1, hz2⟩ := info_parts info33
  obtain ⟨ao, cap, rfl, hc, h0⟩ := h
  obtain ⟨n, hn⟩ : ∃ n, n = S.length := ⟨_, rfl⟩
  rw [← hn] at hs h0 ⊢
  have HN := Lib.hid hn
  have H0 := Lib.hid h0
  clear hc h0 hn
  go_enter Try.func13, Try.ntmps13
  go_wp2
  go_loopw [6, 7, 8] (fun vo vd vi wr => ∃ i : Nat, i ≤ n ∧ vi = .int .i64 i ∧ vd = .bool (getS (S.take i) k).isSome ∧ wr.ownsRow w.heap.size 33 2 vo (delS (S.take i) k).length (flat (delS (S.take i) k)) ∧ Only (fun _ => False) w wr) (fun _ _ vi _ => n - (intOf vi).toNat)
  case atStart => exact ⟨0, Nat.zero_le _, rfl, by simp [getS], by simpa [delS, flat] using World.ownsRow_nil w w.heap.size 33 2, Only.refl _ _⟩
  case round =>
    obtain ⟨i, hi, rfl, rfl, hown, ho⟩ := hrel
    have HOWN := Lib.hid hown
    have HO := Lib.hid ho
    have hsz := ho.size
    clear hown ho
    by_cases hlt : i < n
    · obtain ⟨rb, off, rfl, -, hr⟩ := H0.out (by omega)
      obtain ⟨c0, c1⟩ := hr i hlt
      have d0 := HO.out.cell c0 id
      have d1 := HO.out.cell c1 id
      clear hr c0 c1
      have hts := take_snoc S i (by rw [← HN.out]; exact hlt)
      by_cases hk : (atE S i).1 = k
      · have hgs : (getS (S.take (i + 1)) k).isSome = true := by rw [hts]; exact getS_snoc_eq _ hk
        have hds : delS (S.take (i + 1)) k = delS (S.take i) k := by rw [hts]; exact delS_snoc_eq _ _ _ hk
        have HGS := Lib.hid hgs
        have HDS := Lib.hid hds
        rw [hk] at d0
        clear hk hgs hds hts
        go_wp2
        go_roundw
        case rel => exact ⟨i + 1, by omega, by go_num, by rw [HGS.out], by rw [HDS.out]; exact HOWN.out, HO.out⟩
        case measure => simp [intOf]; omega
      · have hgs : (getS (S.take (i + 1)) k).isSome = (getS (S.take i) k).isSome := by rw [hts]; exact getS_snoc_keep _ hk
        have hds : delS (S.take (i + 1)) k = delS (S.take i) k ++ [atE S i] := by rw [hts]; exact delS_snoc_ne _ _ _ hk
        have HGS := Lib.hid hgs
        have HDS := Lib.hid hds
        obtain ⟨⟨x, y⟩, hx⟩ : ∃ x, x = atE S i := ⟨_, rfl⟩
        have HX := Lib.hid hx
        rw [← hx] at d0 d1 hk
        simp only at d0 d1 hk
        have hxk : (x == k) = false := by simpa using hk
        have hdl : (delS (S.take i) k).length ≤ 1000 := by have := delS_length (S.take i) k; rw [List.length_take] at this; omega
        obtain ⟨m, hm⟩ : ∃ m, m = (delS (S.take i) k).length := ⟨_, rfl⟩
        rw [← hm] at HOWN hdl
        have HM := Lib.hid hm
        clear hx hk hgs hds hts hm
        go_wp2_with (at_builtin; refine wpList_append_own _ rfl (.tmp 22) (.tmp 27) 27 rfl w.heap.size 33 i0 (.agg #[.int .i64 0, .int .i64 0]) 2 16 Try.underlying27 hi0 hz0 hz1 hz2 rfl (by decide) _ m _ rfl (HOWN.out.alloc _) ⟨wr.heap.size, 0, none⟩ 1 1 [.int .i64 x, .int .i64 y] rfl rfl (new_two wr _ _ _) (by simp [Value.oneCell']) (by unfold maxLen; omega) (by omega) (by simp; omega) ?_; intro v' w3 own3 hgr _; have OWN3 := Lib.hid own3; have HGR := Lib.hid hgr; clear own3 hgr)
        have o3 : Only (fun _ => False) w w3 := (HO.out.alloc _).grown HGR.out (fun j hj => .inr (HOWN.out.lt j hj).1)
        refine ⟨⟨i + 1, by omega, by go_num, by rw [HGS.out], ?_, o3⟩, by simp [intOf]; omega⟩
        rw [HDS.out, List.length_append, ← HM.out, flat_append, ← HX.out]
        exact OWN3.out
    · have hi2 : S.take i = S := by
        have : i = n := by omega
        rw [this, HN.out, List.take_length]
      rw [hi2] at HOWN
      have HR := Lib.hid (ReadE.of_owns HOWN.out).2
      rw [hi2]
      clear hi2 HOWN
      go_wp2
      go_ret2
      exact ⟨_, rfl, HR.out, HO.out⟩

end Go.Proofs.Ytnhiohgcoifniaa
