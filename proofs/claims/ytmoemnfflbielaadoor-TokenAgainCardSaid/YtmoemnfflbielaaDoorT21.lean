/- The walk of the law TokenAgain: it returns true; and of TokenCuts over a text too long. -/
import Derived.Test.YtmoemnfflbielaaDoorT20
namespace Go.Proofs.YtmoemnfflbielaaDoor
open Go.RowKit Go.Gav Go.BigFrame Go.Shelf

set_option maxRecDepth 100000 in
theorem cuts_big (s : ByteArray) (k : Int) (hbig : 6000 < s.size) (w : World) (hm : MarksAt w) :
    Calls Tryd.prog 6 #[.string s, .int .u8 k] w fun e w' => e = .returned (.bool true) ∧ Only (fun _ => False) w w' := by
  have HM := Lib.hid hm
  have hb : (6000 : Int) < (s.size : Int) := by omega
  clear hm
  go_enter Tryd.func6, Tryd.ntmps6
  go_wp2_with (fail)
  refine (awake_true _ HM.out).mono ?_
  rintro _ w1 ⟨rfl, o1⟩
  have O1 := Lib.hid o1
  have HM1 := Lib.hid (HM.out.only o1 id)
  clear o1
  go_wp2_with (fail)
  refine (awake_true _ HM1.out).mono ?_
  rintro _ w2 ⟨rfl, o2⟩
  have O2 := Lib.hid (O1.out.trans o2 (fun _ _ h => h))
  clear o2
  go_wp2
  go_ret
  exact ⟨rfl, O2.out⟩

set_option maxRecDepth 100000 in
theorem again_big (s : ByteArray) (line : Bool) (hbig : 6000 < s.size) (w : World) (hm : MarksAt w) :
    Calls Tryd.prog 3 #[.string s, .bool line] w fun e w' => e = .returned (.bool true) ∧ Only (fun _ => False) w w' := by
  have HM := Lib.hid hm
  have hb : (6000 : Int) < (s.size : Int) := by omega
  clear hm
  go_enter Tryd.func3, Tryd.ntmps3
  go_wp2_with (fail)
  refine (awake_true _ HM.out).mono ?_
  rintro _ w1 ⟨rfl, o1⟩
  have O1 := Lib.hid o1
  have HM1 := Lib.hid (HM.out.only o1 id)
  clear o1
  go_wp2_with (fail)
  refine (awake_true _ HM1.out).mono ?_
  rintro _ w2 ⟨rfl, o2⟩
  have O2 := Lib.hid (O1.out.trans o2 (fun _ _ h => h))
  clear o2
  go_wp2
  go_ret
  exact ⟨rfl, O2.out⟩

theorem scan_err {s : ByteArray} (he : (scanR s).2.2 ≠ 0) : (scanR s).1 = [] := by
  cases hq : (items s).find? (fun x => x.2 != 0) with
  | some x => unfold scanR; rw [hq]
  | none => unfold scanR at he; rw [hq] at he; exact absurd rfl he

theorem bys_of_mk (l : List UInt8) : bys (mk l) = l := by simp [bys, mk]

/-- Scan of the words written anew. -/
theorem scan_again (line : Bool) {s : ByteArray} (he : (scanR s).2.2 = 0) (hs : (againL line (scanR s).1).length ≤ 16384) :
    ∃ ts', scanR (mk (againL line (scanR s).1)) = (ts', 0, 0) ∧ ts'.map keyT = (scanR s).1.map keyT := by
  obtain ⟨ts', h1, h2⟩ := again_toks line (toks_of_scan he) (mk (againL line (scanR s).1)).size
  exact ⟨ts', scan_of_toks (by rw [mk_size]; exact hs) (by rw [bys_of_mk]; exact h1), h2⟩

theorem key_at {ts ts' : List Tok} (h : ts'.map keyT = ts.map keyT) : ts'.length = ts.length ∧ ∀ i, i < ts.length → (atT ts' i).kind = (atT ts i).kind ∧ (atT ts' i).S = (atT ts i).S ∧ (atT ts' i).N = (atT ts i).N := by
  have hl : ts'.length = ts.length := by simpa using congrArg List.length h
  refine ⟨hl, fun i hi => ?_⟩
  have h2 := congrArg (fun l => l[i]?) h
  simp only [List.getElem?_map] at h2
  unfold atT
  rw [List.getD_eq_getElem?_getD, List.getD_eq_getElem?_getD]
  rw [List.getElem?_eq_getElem hi, List.getElem?_eq_getElem (by omega : i < ts'.length)] at h2 ⊢
  simp only [Option.map_some, Option.some.injEq, keyT, Prod.mk.injEq] at h2
  exact h2

/-- The order of the words, as the law looks at it. -/
theorem scan_order {s : ByteArray} (he : (scanR s).2.2 = 0) : ∀ i, i < (scanR s).1.length →
    (i + 1 = (scanR s).1.length → (atT (scanR s).1 i).kind = 4 ∧ (atT (scanR s).1 i).At = s.size) ∧ (i + 1 < (scanR s).1.length → (atT (scanR s).1 i).kind ≠ 4 ∧ (atT (scanR s).1 i).At < (atT (scanR s).1 (i + 1)).At) ∧ (atT (scanR s).1 i).At ≤ s.size := by
  intro i hi
  obtain ⟨-, h⟩ := toks_order (toks_of_scan he) (by rw [bys_length]; exact Nat.le_refl _)
  obtain ⟨h1, h2, -, h4⟩ := h i hi
  exact ⟨fun h => by rw [h1 h]; exact ⟨rfl, rfl⟩, h2, h4⟩

theorem againL_snoc (line : Bool) (ts : List Tok) (i : Nat) (hi : i < ts.length) : againL line (ts.take (i + 1)) = againL line (ts.take i) ++ textT (atT ts i) ++ gapL line := by
  rw [take_snocT ts i hi, againL_append, againL, againL, List.append_nil, List.append_assoc]

theorem gapL_length (line : Bool) : (gapL line).length ≤ 3 := by cases line <;> simp [gapL]

theorem againL_length (line : Bool) (ts : List Tok) (h : ∀ t ∈ ts, (textT t).length ≤ 20) : (againL line ts).length ≤ 23 * ts.length := by
  induction ts with
  | nil => simp [againL]
  | cons t ts ih =>
    have h1 := h t List.mem_cons_self
    have h2 := ih (fun t ht => h t (List.mem_cons_of_mem _ ht))
    have h3 := gapL_length line
    rw [againL, List.length_append, List.length_append, List.length_cons]
    omega

/-- The place of the word ahead. -/
def lastAt (ts : List Tok) : Nat → Int
  | 0 => -1
  | i + 1 => ((atT ts i).At : Int)

set_option maxRecDepth 100000 in
set_option maxHeartbeats 2000000 in
theorem again_walk (s : ByteArray) (line : Bool) (hs : s.size ≤ 6000) (w : World) (hm : MarksAt w) :
    Calls Tryd.prog 3 #[.string s, .bool line] w fun e w' => e = .returned (.bool true) ∧ Only (fun _ => False) w w' := by
  have HM := Lib.hid hm
  have HS := Lib.hid (fun w hm => scan_at s (by omega) w hm)
  have hlen := scanR_lengthC s
  have HA := Lib.hid (fun he => scan_again line (s := s) he)
  have HO := Lib.hid (fun he => scan_order (s := s) he)
  have HE := Lib.hid (fun he => scan_err (s := s) he)
  have HSM := Lib.hid (fun he => toks_small (toks_of_scan (s := s) he))
  obtain ⟨⟨ts, a, er⟩, hr⟩ : ∃ r, r = scanR s := ⟨_, rfl⟩
  rw [← hr] at HS hlen HA HO HE HSM
  simp only at HS hlen HA HO HE HSM
  clear hm hr
  have hb : ¬ ((6000 : Int) < (s.size : Int)) := by omega
  go_enter Tryd.func3, Tryd.ntmps3
  go_wp2_with (fail)
  refine (awake_true _ HM.out).mono ?_
  rintro _ w1 ⟨rfl, o1⟩
  have O1 := Lib.hid o1
  have HM1 := Lib.hid (HM.out.only o1 id)
  clear o1 HM
  go_wp2_with (fail)
  refine (HS.out _ HM1.out).mono ?_
  rintro _ w2 ⟨v, rfl, hown, o2⟩
  have RD := Lib.hid (ReadT.of_owns hown).2
  have O2 := Lib.hid (O1.out.trans o2 (fun _ _ h => h))
  have HM2 := Lib.hid (HM1.out.only o2 id)
  clear hown o2 O1 HM1 HS
  obtain ⟨ao, vc, rfl, hrd⟩ := RD.out
  have HRD := Lib.hid hrd
  clear hrd
  obtain ⟨L, hL⟩ : ∃ L, L = ts.length := ⟨_, rfl⟩
  rw [← hL] at hlen HRD ⊢
  by_cases he : er = 0
  · subst he
    have HORD := Lib.hid (HO.out rfl)
    have htl : ∀ t ∈ ts, (textT t).length ≤ 20 ∧ t.N ≤ maxI ∧ t.S.size ≤ 100 := fun t ht => by
      have := HSM.out rfl t ht
      exact ⟨textT_length t this.1 this.2, this.1, by omega⟩
    have HTL := Lib.hid htl
    have HL := Lib.hid hL
    clear HO HE HSM hL htl
    have z1 : (⟨#[32]⟩ : ByteArray).size = 1 := rfl
    have z3 : (⟨#[35, 120, 10]⟩ : ByteArray).size = 3 := rfl
    cases line
    · go_wp2
      go_loopw [9, 10, 11] (fun va vp vi wr => ∃ i : Nat, i ≤ L ∧ vi = .int .i64 i ∧ va = .string (mk (againL false (ts.take i))) ∧ vp = .int .i64 (lastAt ts i) ∧ Only (fun _ => False) w2 wr) (fun _ _ vi _ => L - (intOf vi).toNat)
      case atStart => exact ⟨0, Nat.zero_le _, rfl, rfl, rfl, Only.refl _ _⟩
      case round =>
        obtain ⟨i, hi, rfl, rfl, rfl, ho⟩ := hrel
        have HOW := Lib.hid ho
        clear ho
        have hal := againL_length false (ts.take i) (fun t ht => (HTL.out t (List.mem_of_mem_take ht)).1)
        have hasz : (mk (againL false (ts.take i))).size ≤ 400000 := by
          rw [mk_size]
          rw [List.length_take] at hal
          omega
        clear hal
        by_cases hlt : i < L
        · have hlast : lastAt ts i < ((atT ts i).At : Int) := by
            cases i with
            | zero => show (-1 : Int) < _; omega
            | succ i =>
              have := (HORD.out i (by rw [← HL.out]; omega)).2.1 (by rw [← HL.out]; omega)
              show ((atT ts i).At : Int) < _
              omega
          have hord := HORD.out i (by rw [← HL.out]; omega)
          rw [← HL.out] at hord
          obtain ⟨g1, rfl, q1⟩ := HRD.out (by omega)
          obtain ⟨t, ht⟩ : ∃ t, t = atT ts i := ⟨_, rfl⟩
          have htl := HTL.out t (by rw [ht]; exact atT_mem (by rw [← HL.out]; omega))
          have q1 := q1 i hlt
          rw [← ht] at q1 hlast hord
          obtain ⟨a0, a1, a2, a3⟩ := ReadT.four (fun j x hx => HOW.out.cell (q1 j x hx) id)
          have hord1 := hord.1
          have hord2 := hord.2.1
          have HT := Lib.hid ht
          have HTX := Lib.hid (fun w => text_at t htl.2.1 htl.2.2 w)
          simp only [tokC] at HTX
          have htz : (mk (textT t)).size ≤ 20 := by rw [mk_size]; exact htl.1
          obtain ⟨lp, hlp⟩ : ∃ lp, lp = lastAt ts i := ⟨_, rfl⟩
          rw [← hlp] at hlast ⊢
          have HNX : Hid (mk (againL false (ts.take (i + 1))) = mk (againL false (ts.take i)) ++ mk (textT t) ++ mk (gapL false)) := Lib.hid (by rw [againL_snoc false ts i (by rw [← HL.out]; omega), mk_append, mk_append, HT.out])
          obtain ⟨A, hA⟩ : ∃ A, A = mk (againL false (ts.take i)) := ⟨_, rfl⟩
          obtain ⟨X, hX⟩ : ∃ X, X = mk (textT t) := ⟨_, rfl⟩
          rw [← hA] at HNX hasz ⊢
          rw [← hX] at HNX HTX htz
          have n1 : ¬ (t.At : Int) ≤ lp := by omega
          have i0 : (0 : Int) ≤ (i : Int) := by omega
          have iL : (i : Int) < (L : Int) := by omega
          clear q1 hord hlast hlp hA hX ht htl
          by_cases hl : i + 1 = L
          · obtain ⟨k1, k2⟩ := hord1 hl
            have e1 : ((i : Int) != (L : Int) - 1) = false := by simp; omega
            have e2 : ((t.At : Int) != (s.size : Int)) = false := by simp; omega
            have e3 : ((t.kind : Int) == 4) = true := by rw [k1]; rfl
            clear hord1 hord2 k1 k2
            go_wp2_with (first | (go_at_call 9; refine (HTX.out _).mono ?_; rintro _ wx ⟨rfl, ox⟩))
            go_roundw
            case rel => exact ⟨i + 1, by omega, by go_num, by rw [HNX.out]; rfl, by rw [HT.out]; rfl, HOW.out.trans ox (fun _ _ h => h)⟩
            case measure => simp [intOf]; omega
          · have k1 := (hord2 (by omega)).1
            have e3 : ((t.kind : Int) == 4) = false := by simp; omega
            clear hord1 hord2 k1
            go_wp2_with (first | (go_at_call 9; refine (HTX.out _).mono ?_; rintro _ wx ⟨rfl, ox⟩))
            go_roundw
            case rel => exact ⟨i + 1, by omega, by go_num, by rw [HNX.out]; rfl, by rw [HT.out]; rfl, HOW.out.trans ox (fun _ _ h => h)⟩
            case measure => simp [intOf]; omega
        · have htk : ts.take i = ts := by
            rw [show i = ts.length by rw [← HL.out]; omega]; exact List.take_length
          rw [htk] at hasz ⊢
          have HM3 := Lib.hid (HM2.out.only HOW.out id)
          have O3 := Lib.hid (O2.out.trans HOW.out (fun _ _ h => h))
          have R1 := Lib.hid (RD.out.only HOW.out (fun _ _ => id))
          obtain ⟨lp, hlp⟩ : ∃ lp, lp = lastAt ts i := ⟨_, rfl⟩
          rw [← hlp]
          clear htk hlp HOW
          by_cases h16 : (againL false ts).length ≤ 16384
          · obtain ⟨ts', h1, h2⟩ := HA.out trivial h16
            obtain ⟨hl', hk⟩ := key_at h2
            have HC := Lib.hid (scan_at (mk (againL false ts)) (by rw [mk_size]; omega))
            rw [h1] at HC
            obtain ⟨A, hA⟩ : ∃ A, A = mk (againL false ts) := ⟨_, rfl⟩
            have hAs : A.size ≤ 16384 := by rw [hA, mk_size]; exact h16
            rw [← hA] at HC hasz ⊢
            have HK := Lib.hid hk
            clear h1 h2 hk hA h16 hasz HA
            go_wp2_with (fail)
            refine (HC.out _ HM3.out).mono ?_
            rintro _ w4 ⟨v2, rfl, hown, o4⟩
            have R2 := Lib.hid (ReadT.of_owns hown).2
            have R1' := Lib.hid (R1.out.only o4 (fun _ _ => id))
            have O4 := Lib.hid (O3.out.trans o4 (fun _ _ h => h))
            clear hown o4 O3 HM3 R1 HC RD HRD HTL HORD HM2 O2
            obtain ⟨ao2, vc2, rfl, hrd2⟩ := R2.out
            rw [hl', ← HL.out] at hrd2 ⊢
            have HRD2 := Lib.hid hrd2
            have b1 : ((L : Int) != (L : Int)) = false := by simp
            clear hrd2 R2
            go_wp2
            go_loopw [15] (fun vi wr => ∃ i : Nat, i ≤ L ∧ vi = .int .i64 i ∧ Only (fun _ => False) w4 wr) (fun vi _ => L - (intOf vi).toNat)
            case atStart => exact ⟨0, Nat.zero_le _, rfl, Only.refl _ _⟩
            case round =>
              obtain ⟨i, hi, rfl, ho⟩ := hrel
              have HO := Lib.hid ho
              clear ho
              by_cases hlt : i < L
              · obtain ⟨ao1, vc1, e1, r1⟩ := R1'.out
                obtain ⟨g1, e2, rr⟩ := r1 (by rw [← HL.out]; omega)
                clear r1
                subst e2
                obtain rfl : ao = some ⟨g1, 0, none⟩ := by injection e1 with h _ _
                clear e1
                obtain ⟨g2, rfl, q2⟩ := HRD2.out (by omega)
                have q1 := rr i (by rw [← HL.out]; omega)
                have q2 := q2 i hlt
                obtain ⟨k1, k2, k3⟩ := HK.out i (by rw [← HL.out]; omega)
                obtain ⟨t, ht⟩ : ∃ t, t = atT ts i := ⟨_, rfl⟩
                obtain ⟨t2, ht2⟩ : ∃ t, t = atT ts' i := ⟨_, rfl⟩
                rw [← ht] at q1 k1 k2 k3
                rw [← ht2] at q2 k1 k2 k3
                obtain ⟨a0, a1, a2, a3⟩ := ReadT.four (fun j x hx => HO.out.cell (q1 j x hx) id)
                obtain ⟨c0, c1, c2, c3⟩ := ReadT.four (fun j x hx => HO.out.cell (q2 j x hx) id)
                rw [k1] at c0
                rw [k2] at c1
                rw [k3] at c2
                clear q1 q2 ht ht2 rr k1 k2 k3 a3 c3
                have e1 : ((t.kind : Int) != (t.kind : Int)) = false := by simp
                have e2 : ((t.N : Int) != (t.N : Int)) = false := by simp
                go_wp2
                go_quiet (fail)
                go_wp2
                go_roundw
                case rel => exact ⟨i + 1, by omega, by go_num, HO.out.drewN _⟩
                case measure => simp [intOf]; omega
              · go_wp2
                go_ret
                exact ⟨rfl, O4.out.trans HO.out (fun _ _ h => h)⟩
          · obtain ⟨A, hA⟩ : ∃ A, A = mk (againL false ts) := ⟨_, rfl⟩
            have hAs : 16384 < A.size := by rw [hA, mk_size]; omega
            rw [← hA] at hasz ⊢
            clear hA h16
            go_wp2
            go_ret
            exact ⟨rfl, O3.out⟩
    · go_wp2
      go_loopw [9, 10, 11] (fun va vp vi wr => ∃ i : Nat, i ≤ L ∧ vi = .int .i64 i ∧ va = .string (mk (againL true (ts.take i))) ∧ vp = .int .i64 (lastAt ts i) ∧ Only (fun _ => False) w2 wr) (fun _ _ vi _ => L - (intOf vi).toNat)
      case atStart => exact ⟨0, Nat.zero_le _, rfl, rfl, rfl, Only.refl _ _⟩
      case round =>
        obtain ⟨i, hi, rfl, rfl, rfl, ho⟩ := hrel
        have HOW := Lib.hid ho
        clear ho
        have hal := againL_length true (ts.take i) (fun t ht => (HTL.out t (List.mem_of_mem_take ht)).1)
        have hasz : (mk (againL true (ts.take i))).size ≤ 400000 := by
          rw [mk_size]
          rw [List.length_take] at hal
          omega
        clear hal
        by_cases hlt : i < L
        · have hlast : lastAt ts i < ((atT ts i).At : Int) := by
            cases i with
            | zero => show (-1 : Int) < _; omega
            | succ i =>
              have := (HORD.out i (by rw [← HL.out]; omega)).2.1 (by rw [← HL.out]; omega)
              show ((atT ts i).At : Int) < _
              omega
          have hord := HORD.out i (by rw [← HL.out]; omega)
          rw [← HL.out] at hord
          obtain ⟨g1, rfl, q1⟩ := HRD.out (by omega)
          obtain ⟨t, ht⟩ : ∃ t, t = atT ts i := ⟨_, rfl⟩
          have htl := HTL.out t (by rw [ht]; exact atT_mem (by rw [← HL.out]; omega))
          have q1 := q1 i hlt
          rw [← ht] at q1 hlast hord
          obtain ⟨a0, a1, a2, a3⟩ := ReadT.four (fun j x hx => HOW.out.cell (q1 j x hx) id)
          have hord1 := hord.1
          have hord2 := hord.2.1
          have HT := Lib.hid ht
          have HTX := Lib.hid (fun w => text_at t htl.2.1 htl.2.2 w)
          simp only [tokC] at HTX
          have htz : (mk (textT t)).size ≤ 20 := by rw [mk_size]; exact htl.1
          obtain ⟨lp, hlp⟩ : ∃ lp, lp = lastAt ts i := ⟨_, rfl⟩
          rw [← hlp] at hlast ⊢
          have HNX : Hid (mk (againL true (ts.take (i + 1))) = mk (againL true (ts.take i)) ++ mk (textT t) ++ mk (gapL true)) := Lib.hid (by rw [againL_snoc true ts i (by rw [← HL.out]; omega), mk_append, mk_append, HT.out])
          obtain ⟨A, hA⟩ : ∃ A, A = mk (againL true (ts.take i)) := ⟨_, rfl⟩
          obtain ⟨X, hX⟩ : ∃ X, X = mk (textT t) := ⟨_, rfl⟩
          rw [← hA] at HNX hasz ⊢
          rw [← hX] at HNX HTX htz
          have n1 : ¬ (t.At : Int) ≤ lp := by omega
          have i0 : (0 : Int) ≤ (i : Int) := by omega
          have iL : (i : Int) < (L : Int) := by omega
          clear q1 hord hlast hlp hA hX ht htl
          by_cases hl : i + 1 = L
          · obtain ⟨k1, k2⟩ := hord1 hl
            have e1 : ((i : Int) != (L : Int) - 1) = false := by simp; omega
            have e2 : ((t.At : Int) != (s.size : Int)) = false := by simp; omega
            have e3 : ((t.kind : Int) == 4) = true := by rw [k1]; rfl
            clear hord1 hord2 k1 k2
            go_wp2_with (first | (go_at_call 9; refine (HTX.out _).mono ?_; rintro _ wx ⟨rfl, ox⟩))
            go_roundw
            case rel => exact ⟨i + 1, by omega, by go_num, by rw [HNX.out]; rfl, by rw [HT.out]; rfl, HOW.out.trans ox (fun _ _ h => h)⟩
            case measure => simp [intOf]; omega
          · have k1 := (hord2 (by omega)).1
            have e3 : ((t.kind : Int) == 4) = false := by simp; omega
            clear hord1 hord2 k1
            go_wp2_with (first | (go_at_call 9; refine (HTX.out _).mono ?_; rintro _ wx ⟨rfl, ox⟩))
            go_roundw
            case rel => exact ⟨i + 1, by omega, by go_num, by rw [HNX.out]; rfl, by rw [HT.out]; rfl, HOW.out.trans ox (fun _ _ h => h)⟩
            case measure => simp [intOf]; omega
        · have htk : ts.take i = ts := by
            rw [show i = ts.length by rw [← HL.out]; omega]; exact List.take_length
          rw [htk] at hasz ⊢
          have HM3 := Lib.hid (HM2.out.only HOW.out id)
          have O3 := Lib.hid (O2.out.trans HOW.out (fun _ _ h => h))
          have R1 := Lib.hid (RD.out.only HOW.out (fun _ _ => id))
          obtain ⟨lp, hlp⟩ : ∃ lp, lp = lastAt ts i := ⟨_, rfl⟩
          rw [← hlp]
          clear htk hlp HOW
          by_cases h16 : (againL true ts).length ≤ 16384
          · obtain ⟨ts', h1, h2⟩ := HA.out trivial h16
            obtain ⟨hl', hk⟩ := key_at h2
            have HC := Lib.hid (scan_at (mk (againL true ts)) (by rw [mk_size]; omega))
            rw [h1] at HC
            obtain ⟨A, hA⟩ : ∃ A, A = mk (againL true ts) := ⟨_, rfl⟩
            have hAs : A.size ≤ 16384 := by rw [hA, mk_size]; exact h16
            rw [← hA] at HC hasz ⊢
            have HK := Lib.hid hk
            clear h1 h2 hk hA h16 hasz HA
            go_wp2_with (fail)
            refine (HC.out _ HM3.out).mono ?_
            rintro _ w4 ⟨v2, rfl, hown, o4⟩
            have R2 := Lib.hid (ReadT.of_owns hown).2
            have R1' := Lib.hid (R1.out.only o4 (fun _ _ => id))
            have O4 := Lib.hid (O3.out.trans o4 (fun _ _ h => h))
            clear hown o4 O3 HM3 R1 HC RD HRD HTL HORD HM2 O2
            obtain ⟨ao2, vc2, rfl, hrd2⟩ := R2.out
            rw [hl', ← HL.out] at hrd2 ⊢
            have HRD2 := Lib.hid hrd2
            have b1 : ((L : Int) != (L : Int)) = false := by simp
            clear hrd2 R2
            go_wp2
            go_loopw [15] (fun vi wr => ∃ i : Nat, i ≤ L ∧ vi = .int .i64 i ∧ Only (fun _ => False) w4 wr) (fun vi _ => L - (intOf vi).toNat)
            case atStart => exact ⟨0, Nat.zero_le _, rfl, Only.refl _ _⟩
            case round =>
              obtain ⟨i, hi, rfl, ho⟩ := hrel
              have HO := Lib.hid ho
              clear ho
              by_cases hlt : i < L
              · obtain ⟨ao1, vc1, e1, r1⟩ := R1'.out
                obtain ⟨g1, e2, rr⟩ := r1 (by rw [← HL.out]; omega)
                clear r1
                subst e2
                obtain rfl : ao = some ⟨g1, 0, none⟩ := by injection e1 with h _ _
                clear e1
                obtain ⟨g2, rfl, q2⟩ := HRD2.out (by omega)
                have q1 := rr i (by rw [← HL.out]; omega)
                have q2 := q2 i hlt
                obtain ⟨k1, k2, k3⟩ := HK.out i (by rw [← HL.out]; omega)
                obtain ⟨t, ht⟩ : ∃ t, t = atT ts i := ⟨_, rfl⟩
                obtain ⟨t2, ht2⟩ : ∃ t, t = atT ts' i := ⟨_, rfl⟩
                rw [← ht] at q1 k1 k2 k3
                rw [← ht2] at q2 k1 k2 k3
                obtain ⟨a0, a1, a2, a3⟩ := ReadT.four (fun j x hx => HO.out.cell (q1 j x hx) id)
                obtain ⟨c0, c1, c2, c3⟩ := ReadT.four (fun j x hx => HO.out.cell (q2 j x hx) id)
                rw [k1] at c0
                rw [k2] at c1
                rw [k3] at c2
                clear q1 q2 ht ht2 rr k1 k2 k3 a3 c3
                have e1 : ((t.kind : Int) != (t.kind : Int)) = false := by simp
                have e2 : ((t.N : Int) != (t.N : Int)) = false := by simp
                go_wp2
                go_quiet (fail)
                go_wp2
                go_roundw
                case rel => exact ⟨i + 1, by omega, by go_num, HO.out.drewN _⟩
                case measure => simp [intOf]; omega
              · go_wp2
                go_ret
                exact ⟨rfl, O4.out.trans HO.out (fun _ _ h => h)⟩
          · obtain ⟨A, hA⟩ : ∃ A, A = mk (againL true ts) := ⟨_, rfl⟩
            have hAs : 16384 < A.size := by rw [hA, mk_size]; omega
            rw [← hA] at hasz ⊢
            clear hA h16
            go_wp2
            go_ret
            exact ⟨rfl, O3.out⟩
  · have hei : ((er : Int) != 0) = true := by simp; omega
    have hL0 : L = 0 := by rw [hL, HE.out he]; rfl
    have hl0 : ((L : Int) == 0) = true := by rw [hL0]; rfl
    clear hL0 hL
    go_wp2
    go_ret
    exact ⟨rfl, O2.out⟩

end Go.Proofs.YtmoemnfflbielaaDoor
