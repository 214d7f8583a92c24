/- The walk of the law TokenCuts: it returns true. -/
import Derived.Test.YtmoemnfflbielaaDoorT19
namespace Go.Proofs.YtmoemnfflbielaaDoor
open Go.RowKit Go.Gav Go.BigFrame Go.Shelf

theorem scanR_lengthC (s : ByteArray) : (scanR s).1.length ≤ 16385 := by
  unfold scanR
  split
  · simp
  · have := items_length s
    simpa using this

theorem nextL_small {c : UInt8} {r : List UInt8} {x : Key} {n : Nat} (h : nextL (c :: r) = (x, n, 0)) : x.N ≤ maxI ∧ x.S.length ≤ 16 := by
  rcases nextL_inv h with ⟨hl, h16, rfl, rfl⟩ | ⟨hl, hd, h0, hm, rfl, rfl⟩ | ⟨h39, c2, r2, rfl, hl2, h16, rfl, rfl⟩ | ⟨hl, hd, h39, m, hm, rfl, rfl⟩
  · exact ⟨Nat.zero_le _, h16⟩
  · exact ⟨hm, Nat.zero_le _⟩
  · exact ⟨Nat.zero_le _, h16⟩
  · have := marks_short m (markAt_some hm).1
    exact ⟨Nat.zero_le _, by show m.length ≤ 16; omega⟩

theorem toks_small {M : Nat} {l : List UInt8} {ts : List Tok} (h : Toks M l ts) : ∀ t ∈ ts, t.N ≤ maxI ∧ t.S.size ≤ 16 := by
  induction h with
  | last h =>
    intro t ht
    obtain rfl : t = _ := by simpa using ht
    exact ⟨Nat.zero_le _, Nat.zero_le _⟩
  | word h hn ht ih =>
    intro t htm
    rcases List.mem_cons.1 htm with rfl | h2
    · obtain ⟨h1, h2⟩ := nextL_small hn
      exact ⟨h1, by show (mk _).size ≤ 16; rw [mk_size]; exact h2⟩
    · exact ih t h2

theorem textT_length (t : Tok) (hN : t.N ≤ maxI) (hS : t.S.size ≤ 16) : (textT t).length ≤ 20 := by
  unfold textT
  split
  · exact decL_20 hN
  · split
    · rw [List.length_cons, bys_length]; omega
    · rw [bys_length]; omega

theorem atT_mem {ts : List Tok} {i : Nat} (h : i < ts.length) : atT ts i ∈ ts := by
  unfold atT
  rw [List.getD_eq_getElem?_getD, List.getElem?_eq_getElem h]
  exact List.getElem_mem h

/-- What Scan answers of a text cut off behind a word. -/
theorem scan_cut {s : ByteArray} (hs : s.size ≤ 16384) (he : (scanR s).2.2 = 0) (n : Nat) (hn : n + 1 < (scanR s).1.length) :
    (atT (scanR s).1 n).At + (textT (atT (scanR s).1 n)).length ≤ s.size ∧
    scanR (s.extract 0 ((atT (scanR s).1 n).At + (textT (atT (scanR s).1 n)).length)) = ((scanR s).1.take (n + 1) ++ [⟨4, ByteArray.empty, 0, (atT (scanR s).1 n).At + (textT (atT (scanR s).1 n)).length⟩], 0, 0) := by
  have ht := toks_of_scan he
  obtain ⟨h1, h2, h3⟩ := toks_cut ht (by rw [bys_length]; exact Nat.le_refl _) n hn
  obtain ⟨C, hC⟩ : ∃ C, C = (atT (scanR s).1 n).At + (textT (atT (scanR s).1 n)).length := ⟨_, rfl⟩
  rw [← hC] at h1 h2 h3 ⊢
  rw [bys_length, Nat.sub_self, Nat.sub_zero] at h3
  refine ⟨h2, ?_⟩
  have hsz : (s.extract 0 C).size = C := by rw [ByteArray.size_extract]; omega
  have hby : bys (s.extract 0 C) = (bys s).take C := by
    unfold bys
    rw [Lib.extract_data]; simp
  exact scan_of_toks (by omega) (by rw [hsz, hby]; exact h3)

set_option maxRecDepth 100000 in
set_option maxHeartbeats 2000000 in
theorem cuts_walk (s : ByteArray) (k : Int) (hk : 0 ≤ k) (hk2 : k ≤ 255) (hs : s.size ≤ 6000) (w : World) (hm : MarksAt w) :
    Calls Tryd.prog 6 #[.string s, .int .u8 k] w fun e w' => e = .returned (.bool true) ∧ Only (fun _ => False) w w' := by
  have HM := Lib.hid hm
  have HS := Lib.hid (fun w hm => scan_at s (by omega) w hm)
  have hlen := scanR_lengthC s
  have HC := Lib.hid (fun he n hn => scan_cut (s := s) (by omega) he n hn)
  have HSM := Lib.hid (fun he => toks_small (toks_of_scan (s := s) he))
  obtain ⟨⟨ts, a, er⟩, hr⟩ : ∃ r, r = scanR s := ⟨_, rfl⟩
  rw [← hr] at HS hlen HC HSM
  simp only at HS hlen HC HSM
  clear hm hr
  have hb : ¬ ((6000 : Int) < (s.size : Int)) := by omega
  go_enter Tryd.func6, Tryd.ntmps6
  go_wp2_with (fail)
  refine (awake_true _ HM.out).mono ?_
  rintro _ w1 ⟨rfl, o1⟩
  have O1 := Lib.hid o1
  have HM1 := Lib.hid (HM.out.only o1 id)
  clear o1 HM
  go_wp2_with (fail)
  refine (HS.out _ HM1.out).mono ?_
  rintro _ w2 ⟨v, rfl, hown, o2⟩
  have RD := Lib.hid (ReadT.of_owns hown).2
  have O2 := Lib.hid (O1.out.trans o2 (fun _ _ h => h))
  have HM2 := Lib.hid (HM1.out.only o2 id)
  clear hown o2 O1 HM1 HS
  obtain ⟨ao, vc, rfl, hrd⟩ := RD.out
  have HRD := Lib.hid hrd
  clear hrd RD
  by_cases he : er = 0
  · by_cases h2 : ts.length < 2
    · have h2i : (ts.length : Int) < 2 := by omega
      subst he
      go_wp2
      go_ret
      exact ⟨rfl, O2.out⟩
    · subst he
      obtain ⟨K, rfl⟩ : ∃ K : Nat, k = K := ⟨k.toNat, by omega⟩
      have h2i : ¬ (ts.length : Int) < 2 := by omega
      obtain ⟨L, hL⟩ : ∃ L, L = ts.length := ⟨_, rfl⟩
      rw [← hL] at h2i hlen HRD h2 ⊢
      have HL := Lib.hid hL
      clear hL
      obtain ⟨n, hn⟩ : ∃ n, n = K % (L - 1) := ⟨_, rfl⟩
      have hrem : (K : Int) % ((L : Int) - 1) = (n : Int) := by
        rw [show (L : Int) - 1 = ((L - 1 : Nat) : Int) by omega, hn]
        exact (Int.natCast_emod K (L - 1)).symm
      have hnL : n + 1 < L := by
        have := Nat.mod_lt K (show 0 < L - 1 by omega)
        omega
      obtain ⟨g, rfl, hrd⟩ := HRD.out (by omega)
      have hrn := hrd n (by omega)
      have hcut := HC.out rfl n (by rw [← HL.out]; exact hnL)
      have hsm := HSM.out rfl (atT ts n) (atT_mem (by rw [← HL.out]; omega))
      have hRDx := Lib.hid hrd
      obtain ⟨t, ht⟩ : ∃ t, t = atT ts n := ⟨_, rfl⟩
      rw [← ht] at hrn hcut hsm
      have htl := textT_length t hsm.1 hsm.2
      have HTX := Lib.hid (fun w => text_at t hsm.1 (by omega) w)
      simp only [tokC] at HTX
      obtain ⟨y0, y1, y2, y3⟩ := ReadT.four hrn
      have hmks : (mk (textT t)).size = (textT t).length := mk_size _
      obtain ⟨m, hm⟩ : ∃ m, m = (textT t).length := ⟨_, rfl⟩
      rw [← hm] at hmks hcut htl
      obtain ⟨hC, hscan⟩ := hcut
      have hAt : t.At + m ≤ 6000 := by omega
      have HCUT := Lib.hid (scan_at (s.extract 0 (t.At + m)) (by rw [ByteArray.size_extract]; omega))
      rw [hscan] at HCUT
      have HMS : Hid (ReadT w2 (.slice (some ⟨g, 0, none⟩) L vc) ts) := ⟨_, _, by rw [HL.out], fun _ => ⟨g, rfl, fun i hi => hRDx.out i (by rw [HL.out]; exact hi)⟩⟩
      obtain ⟨tx, htx⟩ : ∃ tx, tx = mk (textT t) := ⟨_, rfl⟩
      rw [← htx] at hmks HTX
      have HT := Lib.hid ht
      clear hrd hrn hsm ht htx hm hscan HSM HRD hn HC
      obtain ⟨C, hCC⟩ : ∃ C, C = t.At + m := ⟨_, rfl⟩
      rw [← hCC] at HCUT hC hAt
      have hCe : (t.At : Int) + (m : Int) = (C : Int) := by omega
      have hCs : (C : Int) ≤ (s.size : Int) := by omega
      clear hCC
      have i1 : (0 : Int) ≤ (n : Int) := by omega
      have i2 : (n : Int) < (L : Int) := by omega
      go_wp2_with (fail)
      go_region_held3 (fun w' => w'.cell? ⟨g, n * 4, none⟩ = some (.int .i64 t.kind) ∧ w'.cell? ⟨g, n * 4 + 1, none⟩ = some (.string t.S) ∧ w'.cell? ⟨g, n * 4 + 2, none⟩ = some (.int .i64 t.N) ∧ w'.cell? ⟨g, n * 4 + 3, none⟩ = some (.int .i64 t.At)) (first | exact ⟨y0, y1, y2, y3⟩ | exact ⟨ox.cell y0 id, ox.cell y1 id, ox.cell y2 id, ox.cell y3 id⟩) (first | (go_at_call 9; refine (HTX.out _).mono ?_; rintro _ wx ⟨rfl, ox⟩))
      have O3 : Hid (Only (fun _ => False) w wx) := (O2.out.drewN 1).trans ox (fun _ _ h => h)
      have HM3 := Lib.hid ((HM2.out.only ((Only.refl (fun _ => False) w2).drewN 1) id).only ox id)
      have HMS3 := Lib.hid ((HMS.out.only ((Only.refl (fun _ => False) w2).drewN 1) (fun _ _ => id)).only ox (fun _ _ => id))
      clear ox O2 HM2 HMS y0 y1 y2 y3 HTX
      go_wp2_with (fail)
      refine (HCUT.out _ HM3.out).mono ?_
      rintro _ w4 ⟨v2, rfl, hown, o4⟩
      have R2 := Lib.hid (ReadT.of_owns hown).2
      have R1 := Lib.hid (HMS3.out.only o4 (fun _ _ => id))
      have O4 := Lib.hid (O3.out.trans o4 (fun _ _ h => h))
      clear hown o4 O3 HM3 HMS3 HCUT
      obtain ⟨ms, hms⟩ : ∃ ms, ms = ts.take (n + 1) ++ [(⟨4, ByteArray.empty, 0, C⟩ : Tok)] := ⟨_, rfl⟩
      rw [← hms] at R2
      have hml : ms.length = n + 2 := by
        rw [hms, List.length_append, List.length_take, ← HL.out]
        simp; omega
      have hmn : atT ms (n + 1) = ⟨4, ByteArray.empty, 0, C⟩ := by
        have e : (ts.take (n + 1)).length = n + 1 := by rw [List.length_take, ← HL.out]; omega
        unfold atT
        rw [hms, List.getD_eq_getElem?_getD, List.getElem?_append_right (by omega), e]
        simp
      have hmi : ∀ i, i ≤ n → atT ms i = atT ts i := fun i hi => by
        have e : (ts.take (n + 1)).length = n + 1 := by rw [List.length_take, ← HL.out]; omega
        unfold atT
        rw [hms, List.getD_eq_getElem?_getD, List.getD_eq_getElem?_getD, List.getElem?_append_left (by omega), List.getElem?_take, if_pos (by omega)]
      have HMI := Lib.hid hmi
      obtain ⟨ao2, vc2, rfl, hrd2⟩ := R2.out
      obtain ⟨g2, rfl, hrd3⟩ := hrd2 (by omega)
      have hrn := hrd3 (n + 1) (by omega)
      rw [hmn] at hrn
      obtain ⟨q0, q1, q2, q3⟩ := ReadT.four hrn
      have z0 : w4.cell? ⟨g2, (n + 1) * 4, none⟩ = some (.int .i64 4) := q0
      have z3 : w4.cell? ⟨g2, (n + 1) * 4 + 3, none⟩ = some (.int .i64 C) := q3
      obtain ⟨L2, hL2⟩ : ∃ L2, L2 = ms.length := ⟨_, rfl⟩
      rw [← hL2] at hrd3 hml ⊢
      have HRD2 := Lib.hid hrd3
      have b1 : ((L2 : Int) != (n : Int) + 2) = false := by simp; omega
      have b2 : ((C : Int) != (C : Int)) = false := by simp
      have b3 : (n : Int) + 1 < (L2 : Int) := by omega
      have b4 : (0 : Int) ≤ (n : Int) + 1 := by omega
      have HML := Lib.hid hml
      clear hrd2 hrd3 hrn hmi hmn hml hms hL2 R2 q0 q1 q2 q3
      have hm28 : Tryd.prog.eqGuardType Tryd.prog.depth 28 = false := by kernel_rfl
      have hnq := neq_tok 28 (.inl rfl)
      have HQ := Lib.hid hnq
      clear hnq
      go_wp2
      go_loopw [13] (fun vi wr => ∃ i : Nat, i ≤ n + 1 ∧ vi = .int .i64 i ∧ Only (fun _ => False) w4 wr) (fun vi _ => n + 1 - (intOf vi).toNat)
      case atStart => exact ⟨0, Nat.zero_le _, rfl, Only.refl _ _⟩
      case round =>
        obtain ⟨i, hi, rfl, ho⟩ := hrel
        have HO := Lib.hid ho
        clear ho z0 z3
        by_cases hlt : i ≤ n
        · obtain ⟨ao1, vc1, e1, r1⟩ := R1.out
          have q2 := HRD2.out i (by have := HML.out; omega)
          rw [HMI.out i hlt] at q2
          obtain ⟨g1, e2, rr⟩ := r1 (by rw [← HL.out]; omega)
          clear r1
          subst e2
          obtain rfl : g = g1 := by injection e1 with h _ _; injection h with h; injection h
          clear e1
          have q1 := rr i (by rw [← HL.out]; omega)
          obtain ⟨ti, hti⟩ : ∃ t, t = atT ts i := ⟨_, rfl⟩
          rw [← hti] at q1 q2
          obtain ⟨a0, a1, a2, a3⟩ := ReadT.four (fun j x hx => HO.out.cell (q1 j x hx) id)
          obtain ⟨c0, c1, c2, c3⟩ := ReadT.four (fun j x hx => HO.out.cell (q2 j x hx) id)
          have hnq := HQ.out ti
          simp only [tokC] at hnq
          have hL2 : (i : Int) < (L2 : Int) := by have := HML.out; omega
          have hiL : (i : Int) < (L : Int) := by omega
          have hi0 : (0 : Int) ≤ (i : Int) := by omega
          clear q1 q2 hti rr
          go_wp2
          go_quiet (fail)
          go_wp2
          go_roundw
          case rel => exact ⟨i + 1, by omega, by go_num, HO.out.drewN _⟩
          case measure => simp [intOf]; omega
        · go_wp2
          go_ret
          exact ⟨rfl, O4.out.trans HO.out (fun _ _ h => h)⟩
  · have hei : ((er : Int) != 0) = true := by simp; omega
    go_wp2
    go_ret
    exact ⟨rfl, O2.out⟩

end Go.Proofs.YtmoemnfflbielaaDoor
