/- The walk of the law HeapSets: it returns true. -/
import Derived.Test.YtnhiohgcoifniaaOpen
namespace Go.Proofs.Ytnhiohgcoifniaa
open Go.RowKit Go.Gav Go.BigFrame

theorem HRep.nd {w : World} {hb lb mb : Nat} {S : List En} (h : HRep w hb lb mb S) : KeysND S := let ⟨_, _, _, _, _, c⟩ := h; c.nd

theorem getS_mem {S : List En} {k b : Int} (h : getS S k = some b) : (k, b) ∈ S := by
  unfold getS at h
  simp only [Option.map_eq_some_iff] at h
  obtain ⟨x, hx, e⟩ := h
  have h1 := List.mem_of_find?_eq_some hx
  have h2 := List.find?_some hx
  simp at h2
  obtain ⟨x1, x2⟩ := x
  simp only at h2 e
  rw [← h2, ← e]; exact h1

theorem getS_do {S : List En} (hn : KeysND S) {k b : Int} (h : getS S k = some b) {d : Int} {x : En} (hd : d % 8 ≠ 6) (hx : x.1 ≠ k) : getS (doS S d x) k = some b := by
  have hm := getS_mem h
  unfold doS
  split
  · have hm2 : (k, b) ∈ setS S x := (setS_perm S x).mem_iff.2 (List.mem_cons_of_mem _ (List.mem_filter.2 ⟨hm, by simpa using fun e => hx e.symm⟩))
    exact getS_some (setS_nd hn x) hm2
  · split
    · have hm2 : (k, b) ∈ delS S x.1 := List.mem_filter.2 ⟨hm, by simpa using fun e => hx e.symm⟩
      exact getS_some (delS_nd hn x.1) hm2
    · first | exact h | (rw [if_neg hd]; exact h)

theorem getS_del (S : List En) (k : Int) : getS (delS S k) k = none := getS_none (delS_keys S k)

set_option maxRecDepth 100000 in
set_option maxHeartbeats 4000000 in
theorem sets_walk (k b : Int) (hk : I64 k) (a : Option Addr) (len cap : Nat) (D : Nat → Int) (X : Nat → Int × Int) (w : World) (hl : IsActs w a len D X) (hlen : len ≤ 200) :
    Calls Try.prog 4 #[.slice a len cap, .int .i64 k, .int .i64 b] w fun e w' => e = .returned (.bool true) ∧ Only (fun _ => False) w w' := by
  have HL := Lib.hid hl
  clear hl
  go_enter Try.func4, Try.ntmps4
  go_wp2_with (fail)
  refine (awake_true _).mono ?_
  rintro e w1 ⟨rfl, o1⟩
  have O1 := Lib.hid o1
  clear o1
  go_wp2_with (fail)
  refine (h_new _).mono ?_
  rintro e w2 ⟨hb, l0, mb, rfl, h2, b1, b2, b3, o2⟩
  have H2 := Lib.hid h2
  have O2 := Lib.hid (O1.out.trans o2 (fun _ _ h => h))
  have HB := Lib.hid (And.intro b1 (And.intro b2 (And.intro b3 O1.out.size)))
  clear h2 o2 b1 b2 b3
  go_wp2_with (fail)
  refine (h_set hb l0 mb [] k b hk _ H2.out (by decide)).mono ?_
  rintro e w3 ⟨rfl, l1, h3, g3, o3⟩
  have H3 := Lib.hid h3
  have O3 : Hid (Only (fun _ => False) w w3) := O2.out.trans o3 (fun j hj h => by have := HB.out; omega)
  have L3 : w.heap.size ≤ l1 := by have := HB.out; have := O2.out.size; omega
  clear h3 g3 o3 H2 O1
  have S3 : setS [] (k, b) = [(k, b)] := rfl
  rw [S3] at H3
  go_wp2
  go_loopw [8, 9] (fun v8 v9 wr => ∃ (i lb : Nat) (S : List En), v8 = .bool true ∧ v9 = .int .i64 i ∧ i ≤ len ∧ HRep wr hb lb mb S ∧ getS S k = some b ∧ S.length ≤ i + 1 ∧ w.heap.size ≤ lb ∧ Only (fun _ => False) w wr)
    (fun _ vi _ => len - (intOf vi).toNat)
  case atStart => exact ⟨0, l1, _, rfl, rfl, Nat.zero_le _, H3.out, by simp [getS], by simp, L3, O3.out⟩
  case round =>
    clear H3 O3
    obtain ⟨i, lb, S, rfl, rfl, hi, hr, hg, hs, hlb, ho⟩ := hrel
    have HR := Lib.hid hr
    have HG := Lib.hid hg
    have HO := Lib.hid ho
    clear hr hg ho
    by_cases hlt : i < len
    · obtain ⟨bb, off, rfl, hc⟩ := HL.out (by omega)
      obtain ⟨d0, x0, y0, dlo, dhi, hkx⟩ := hc i hlt
      have e0 := HO.out.cell d0 id
      have e1 := HO.out.cell x0 id
      have e2 := HO.out.cell y0 id
      clear d0 x0 y0 hc
      obtain ⟨⟨kx, bx⟩, hxi⟩ : ∃ xi, xi = X i := ⟨_, rfl⟩
      rw [← hxi] at e1 e2 hkx
      simp only at e1 e2 hkx
      clear hxi
      by_cases h6 : D i % 8 = 6
      · go_wp2_with (fail)
        go_roundw
        case rel => exact ⟨i + 1, lb, S, rfl, by go_num, by omega, HR.out.only ((Only.refl (fun _ => False) _).alloc _) id id id, HG.out, by omega, hlb, HO.out.alloc _⟩
        case measure => simp [intOf]; omega
      · by_cases hkk : kx = k
        · subst hkk
          go_wp2_with (fail)
          go_roundw
          case rel => exact ⟨i + 1, lb, S, rfl, by go_num, by omega, HR.out.only ((Only.refl (fun _ => False) _).alloc _) id id id, HG.out, by omega, hlb, HO.out.alloc _⟩
          case measure => simp [intOf]; omega
        · have hkf : (kx == k) = false := by simpa using hkk
          go_wp2_with (fail)
          refine (h_done hb lb mb S (D i) kx bx dlo dhi hkx _ (HR.out.only ((Only.refl (fun _ => False) _).alloc _) id id id) (by omega)).mono ?_
          rintro e w4 ⟨rfl, lb4, h4, g4, o4⟩
          have H4 := Lib.hid h4
          have G4 := Lib.hid (getS_do HR.out.nd HG.out (x := (kx, bx)) h6 hkk)
          have hlen4 := doS_length S (D i) (kx, bx)
          have O4 : Hid (Only (fun _ => False) w w4) := (HO.out.alloc _).trans o4 (fun j hj h => by have := HB.out; omega)
          have L4 : w.heap.size ≤ lb4 := by
            rcases g4 with g4 | g4
            · omega
            · simp at g4; have := HO.out.size; omega
          clear h4 g4 o4
          go_wp2_with (fail)
          refine (h_get hb lb4 mb _ k hk _ H4.out).mono ?_
          rintro e w5 ⟨rfl, rfl⟩
          rw [G4.out]
          go_wp2_with (fail)
          go_roundw
          case rel => exact ⟨i + 1, lb4, _, rfl, by go_num, by omega, H4.out, G4.out, by omega, L4, O4.out⟩
          case measure => simp [intOf]; omega
    · go_wp2_with (fail)
      refine (h_del hb lb mb S k hk _ HR.out).mono ?_
      rintro e w4 ⟨rfl, h4, o4⟩
      have H4 := Lib.hid h4
      have O4 : Hid (Only (fun _ => False) w w4) := HO.out.trans o4 (fun j hj h => by have := HB.out; omega)
      clear h4 o4
      rw [HG.out]
      go_wp2_with (fail)
      refine (h_del hb lb mb _ k hk _ H4.out).mono ?_
      rintro e w5 ⟨rfl, h5, o5⟩
      have O5 : Hid (Only (fun _ => False) w w5) := O4.out.trans o5 (fun j hj h => by have := HB.out; omega)
      clear h5 o5
      rw [getS_del]
      go_wp2
      go_ret
      exact ⟨rfl, O5.out⟩

end Go.Proofs.Ytnhiohgcoifniaa
