/- The contract of settle. -/
import Derived.Test.YtnhiohgcoifniaaH4
namespace Go.Proofs.Ytnhiohgcoifniaa
open Go.RowKit Go.Gav Go.BigFrame
open Go.Maps (Tidy IsMap)

theorem less_is_h (hb lb mb : Nat) (L : List En) (D : DataW Unit) (v : Value) (w : World) (h : HAt w hb lb mb L D v) (i k : Nat) (hi : i < L.length) (hk : k < L.length) (b : Bool) (e : decide (lessE (atE L i) (atE L k)) = b) :
    Calls Try.prog 37 #[.pointer (some ⟨hb, 0, none⟩), .int .i64 i, .int .i64 k] w fun e w' => e = .returned (.bool b) ∧ Only (fun _ => False) w w' := by
  subst e; exact h_less hb lb mb L D v w h i k hi hk

theorem less_is_i (hb lb mb : Nat) (L : List En) (D : DataW Unit) (v : Value) (w : World) (h : HAt w hb lb mb L D v) (i k : Nat) (ii ki : Int) (ei : ii = (i : Int)) (ek : ki = (k : Int)) (hi : i < L.length) (hk : k < L.length) (b : Bool) (e : decide (lessE (atE L i) (atE L k)) = b) :
    Calls Try.prog 37 #[.pointer (some ⟨hb, 0, none⟩), .int .i64 ii, .int .i64 ki] w fun e w' => e = .returned (.bool b) ∧ Only (fun _ => False) w w' := by
  subst e; subst ei; subst ek; exact h_less hb lb mb L D v w h i k hi hk

theorem upP_congr {g g' : Nat → En} {n i : Nat} (h : UpP g n i) (hi : i < n) (e : ∀ j, j < n → g' j = g j) : UpP g' n i := by
  refine ⟨fun j j0 jn ji pj => ?_, fun i0 j j0 jn pj => ?_⟩
  · have := par_lt j0
    rw [e _ (by omega), e j jn]; exact h.1 j j0 jn ji pj
  · have := par_lt i0
    rw [e _ (by omega), e j jn]; exact h.2 i0 j j0 jn pj
theorem downP_congr {g g' : Nat → En} {n i : Nat} (h : DownP g n i) (hi : i < n) (e : ∀ j, j < n → g' j = g j) : DownP g' n i := by
  refine ⟨fun j j0 jn pj => ?_, fun i0 j j0 jn pj => ?_⟩
  · have := par_lt j0
    rw [e _ (by omega), e j jn]; exact h.1 j j0 jn pj
  · have := par_lt i0
    rw [e _ (by omega), e j jn]; exact h.2 i0 j j0 jn pj

set_option maxRecDepth 100000 in
set_option maxHeartbeats 4000000 in
theorem h_settle (hb lb mb : Nat) (L : List En) (D : DataW Unit) (v : Value) (w : World) (h : HAt w hb lb mb L D v) (i : Nat) (hi : i < L.length) (hu : UpP (atE L) L.length i) :
    Calls Try.prog 29 #[.pointer (some ⟨hb, 0, none⟩), .int .i64 i] w fun e w' => e = .returned (.tuple #[]) ∧ ∃ L', (∃ D', HAt w' hb lb mb L' D' v) ∧ HeapP (atE L') L'.length ∧ L'.Perm L ∧ Only (fun j => j = lb ∨ j = mb) w w' := by
  obtain ⟨ao, cap, rfl, hcap, -⟩ := h.row.len
  have hsm := h.small
  have HU := Lib.hid hu
  obtain ⟨n, hn⟩ : ∃ n, n = L.length := ⟨_, rfl⟩
  rw [← hn] at h
  have HH := Lib.hid h
  have hi' : i < n := by omega
  have HN := Lib.hid hn
  have hsn : n ≤ 1000 := by omega
  clear h hu hi hsm hn
  go_enter Try.func29, Try.ntmps29
  go_wp2
  go_loopw [1] (fun vi wr => ∃ (j : Nat) (L' : List En) (D' : DataW Unit), vi = .int .i64 j ∧ j < n ∧ L'.length = n ∧ HAt wr hb lb mb L' D' (.slice ao n cap) ∧ UpP (atE L') n j ∧ L'.Perm L ∧ Only (fun k => k = lb ∨ k = mb) w wr)
    (fun vi _ => (intOf vi).toNat)
  case atStart => exact ⟨i, L, D, rfl, hi', HN.out.symm, HH.out, by rw [HN.out]; exact HU.out, List.Perm.refl _, Only.refl _ _⟩
  case round =>
    obtain ⟨j, L1, D1, rfl, hj, hl1, h1, u1, p1, o1⟩ := hrel
    have H1 := Lib.hid h1
    have U1 := Lib.hid u1
    have P1 := Lib.hid p1
    have O1 := Lib.hid o1
    have HL1 := Lib.hid hl1
    clear h1 u1 p1 o1 hl1
    by_cases hj0 : j = 0
    · have U2 := Lib.hid (up_done U1.out (fun h => absurd hj0 (by omega)))
      have hjf : decide (0 < j) = false := by simp; exact hj0
      clear hj0
      go_wp2_with (fail)
      go_loopw [1] (fun vi wr => ∃ (j : Nat) (L' : List En) (D' : DataW Unit), vi = .int .i64 j ∧ j < n ∧ L'.length = n ∧ HAt wr hb lb mb L' D' (.slice ao n cap) ∧ DownP (atE L') n j ∧ L'.Perm L ∧ Only (fun k => k = lb ∨ k = mb) w wr)
        (fun vi _ => n - (intOf vi).toNat)
      case atStart => exact ⟨_, L1, D1, rfl, hj, HL1.out, H1.out, U2.out, P1.out, O1.out⟩
      case round =>
        clear H1 U2 P1 O1 HL1 hj
        obtain ⟨j2, L2, D2, rfl, hj2, hl2, h2, u2, p2, o2⟩ := hrel
        have H2 := Lib.hid h2
        have U2 := Lib.hid u2
        have P2 := Lib.hid p2
        have O2 := Lib.hid o2
        have HL2 := Lib.hid hl2
        clear h2 u2 p2 o2 hl2
        go_wp2_with (fail)
        have B0 : Hid ((wr.alloc (Obj.cells #[Value.int IntKind.i64 (2 * ↑j2 + 1), Value.int IntKind.i64 (2 * ↑j2 + 2)] 3)).heap[wr.heap.size]? = some (.cells #[.int .i64 (2 * ↑j2 + 1), .int .i64 (2 * ↑j2 + 2)] 3 (0, 0))) := heap_alloc_new _ _
        have o3 : Only (fun _ => False) wr (wr.alloc (Obj.cells #[Value.int IntKind.i64 (2 * ↑j2 + 1), Value.int IntKind.i64 (2 * ↑j2 + 2)] 3)) := (Only.refl _ _).alloc _
        have H3 := Lib.hid (H2.out.only o3 id id id)
        have O3 := Lib.hid (O2.out.trans o3 (fun _ _ h => h.elim))
        generalize wr.alloc (Obj.cells #[Value.int IntKind.i64 (2 * ↑j2 + 1), Value.int IntKind.i64 (2 * ↑j2 + 2)] 3) = w3 at *
        obtain ⟨B, hB⟩ : ∃ B, B = wr.heap.size := ⟨_, rfl⟩
        rw [← hB] at B0
        rw [← hB]
        clear o3 hB H2 O2
        go_loopw [4, 35] (fun vc vs wq => ∃ (s c : Nat), vs = .int .i64 s ∧ vc = .int .i64 c ∧ s ≤ 2 ∧ c < n ∧ (c = j2 ∨ (par c = j2 ∧ 0 < c ∧ lessE (atE L2 c) (atE L2 j2))) ∧ (∀ d, 0 < d → d < n → par d = j2 → d < 2 * j2 + 1 + s → leE (atE L2 c) (atE L2 d)) ∧ leE (atE L2 c) (atE L2 j2) ∧ Only (fun _ => False) w3 wq)
          (fun _ vs _ => 2 - (intOf vs).toNat)
        case atStart => exact ⟨0, j2, rfl, rfl, by omega, hj2, .inl rfl, fun d d0 dn dp dl => by unfold par at dp; omega, leE_refl _, Only.refl _ _⟩
        case round =>
          obtain ⟨s, c, rfl, rfl, hs, hc, hcc, hcd, hcj, oq⟩ := hrel
          have HC := Lib.hid (And.intro hcc (And.intro hcd hcj))
          have OQ := Lib.hid oq
          clear hcc hcd hcj oq
          have HA := H3.out.only OQ.out id id id
          obtain ⟨b0, b1, b2⟩ := three_cells HA.head
          have HA' := Lib.hid HA
          clear HA b0 b2
          by_cases hs2 : s < 2
          · obtain ⟨kv, hkv⟩ : ∃ kv : Int, kv = ((2 * j2 + 1 + s : Nat) : Int) := ⟨_, rfl⟩
            have kc : wr.cell? ⟨B, s, none⟩ = some (.int .i64 kv) := by
              rw [cell_of_row wr _ _ _ _ _ (OQ.out.keep B0.out id), hkv]
              have : s = 0 ∨ s = 1 := by omega
              rcases this with rfl | rfl
              · simp
              · simp; omega
            by_cases hkn : 2 * j2 + 1 + s < n
            · have hkn' : kv < (n : Int) := by omega
              cases hb2 : decide (lessE (atE L2 (2 * j2 + 1 + s)) (atE L2 c)) with
              | true =>
                have HB2 := Lib.hid hb2
                have HKV := Lib.hid hkv
                clear hb2 hkv
                go_wp2_with (fail)
                refine (less_is_i hb lb mb L2 D2 _ _ HA'.out (2 * j2 + 1 + s) c kv c HKV.out rfl (by rw [HL2.out]; exact hkn) (by rw [HL2.out]; exact hc) true HB2.out).mono ?_
                rintro e w5 ⟨rfl, o5⟩
                have O5 := Lib.hid (OQ.out.trans o5 (fun _ _ h => h))
                clear o5
                go_wp2
                go_roundw
                case rel =>
                  obtain ⟨hcc, hcd, hcj⟩ := HC.out
                  have hl : lessE (atE L2 (2 * j2 + 1 + s)) (atE L2 c) := by simpa using HB2.out
                  refine ⟨s + 1, 2 * j2 + 1 + s, by go_num, by rw [HKV.out], by omega, hkn, .inr ⟨by unfold par; omega, by omega, ?_⟩, fun d d0 dn dp dl => ?_, ?_, O5.out⟩
                  · unfold leE lessE at *; omega
                  · by_cases hd : d < 2 * j2 + 1 + s
                    · exact leE_trans (leE_of_less hl) (hcd d d0 dn dp hd)
                    · obtain rfl : d = 2 * j2 + 1 + s := by omega
                      exact leE_refl _
                  · exact leE_trans (leE_of_less hl) hcj
                case measure => simp [intOf]; omega
              | false =>
                have HB2 := Lib.hid hb2
                have HKV := Lib.hid hkv
                clear hb2 hkv
                go_wp2_with (fail)
                refine (less_is_i hb lb mb L2 D2 _ _ HA'.out (2 * j2 + 1 + s) c kv c HKV.out rfl (by rw [HL2.out]; exact hkn) (by rw [HL2.out]; exact hc) false HB2.out).mono ?_
                rintro e w5 ⟨rfl, o5⟩
                have O5 := Lib.hid (OQ.out.trans o5 (fun _ _ h => h))
                clear o5
                go_wp2
                go_roundw
                case rel =>
                  obtain ⟨hcc, hcd, hcj⟩ := HC.out
                  have hl : ¬ lessE (atE L2 (2 * j2 + 1 + s)) (atE L2 c) := by simpa using HB2.out
                  refine ⟨s + 1, c, by go_num, rfl, by omega, hc, hcc, fun d d0 dn dp dl => ?_, hcj, O5.out⟩
                  by_cases hd : d < 2 * j2 + 1 + s
                  · exact hcd d d0 dn dp hd
                  · obtain rfl : d = 2 * j2 + 1 + s := by omega
                    exact leE_of_not hl
                case measure => simp [intOf]; omega
            · have hkn' : ¬ kv < (n : Int) := by omega
              have HKV := Lib.hid hkv
              clear hkv
              go_wp2_with (fail)
              go_roundw
              case rel =>
                obtain ⟨hcc, hcd, hcj⟩ := HC.out
                refine ⟨s + 1, c, by go_num, rfl, by omega, hc, hcc, fun d d0 dn dp dl => ?_, hcj, OQ.out⟩
                exact hcd d d0 dn dp (by omega)
              case measure => simp [intOf]; omega
          · obtain rfl : s = 2 := by omega
            by_cases hcj2 : c = j2
            · subst hcj2
              go_wp2_with (fail)
              obtain ⟨-, hcd, -⟩ := HC.out
              refine bodyPost_ret (results_none rfl _ _ _) rfl ⟨rfl, L2, ⟨D2, by rw [← HN.out]; exact HA'.out⟩, ?_, P2.out, O3.out.trans (OQ.out.mono (fun _ h => h.elim)) (fun _ _ h => h)⟩
              rw [HL2.out]
              exact down_done U2.out (fun d d0 dn dp => hcd d d0 dn dp (by unfold par at dp; omega))
            · have hcj3 : ((c : Int) == (j2 : Int)) = false := by simp; omega
              go_wp2_with (fail)
              refine (h_swap hb lb mb L2 D2 _ _ HA'.out j2 c (by rw [HL2.out]; exact hj2) (by rw [HL2.out]; exact hc)).mono ?_
              rintro e w5 ⟨rfl, h5, o5⟩
              have H5 := Lib.hid h5
              have O5 := Lib.hid o5
              clear h5 o5
              go_wp2_with (fail)
              go_roundw
              case rel =>
                obtain ⟨hcc, hcd, hcj⟩ := HC.out
                rcases hcc with hcc | ⟨hp1, hp2, hp3⟩
                · exact absurd hcc hcj2
                · trace_state
                  refine ⟨c, swapL L2 j2 c, _, rfl, hc, by rw [swapL_length]; exact HL2.out, H5.out, ?_, (swapL_perm L2 j2 c (by rw [HL2.out]; exact hj2) (by rw [HL2.out]; exact hc)).trans P2.out, ?_⟩
                  · refine downP_congr (down_step U2.out hp2 hc hp1 hp3 (fun d d0 dn dp => hcd d d0 dn dp (by unfold par at dp; omega))) hc (fun x hx => ?_)
                    exact swapL_at L2 j2 c (by rw [HL2.out]; exact hj2) (by rw [HL2.out]; exact hc) x (by rw [HL2.out]; exact hx)
                  · exact (O3.out.trans (OQ.out.mono (fun _ h => h.elim)) (fun _ _ h => h)).trans O5.out (fun _ _ h => h)
              case measure =>
                obtain ⟨hcc, -, -⟩ := HC.out
                rcases hcc with hcc | ⟨hp1, hp2, hp3⟩
                · exact absurd hcc hcj2
                · simp [intOf]; unfold par at hp1; omega
    · have hp : ((j : Int) - 1) / 2 = ((par j : Nat) : Int) := by unfold par; omega
      have hp2 : ((j : Int) - 1).tdiv 2 = ((par j : Nat) : Int) := by rw [Int.tdiv_eq_ediv_of_nonneg (by omega)]; exact hp
      have hpj : par j < n := by have := par_lt (show 0 < j by omega); omega
      cases hb2 : decide (lessE (atE L1 j) (atE L1 (par j))) with
      | true =>
        have HB2 := Lib.hid hb2
        clear hb2
        go_wp2_with (fail)
        refine (less_is_h hb lb mb L1 D1 _ _ H1.out j (par j) (by rw [HL1.out]; exact hj) (by rw [HL1.out]; exact hpj) true HB2.out).mono ?_
        rintro e w2 ⟨rfl, o2⟩
        have H2 := Lib.hid (H1.out.only o2 id id id)
        have O2 := Lib.hid (O1.out.trans o2 (fun _ _ h => h.elim))
        clear o2
        go_wp2_with (fail)
        refine (h_swap hb lb mb L1 D1 _ _ H2.out j (par j) (by rw [HL1.out]; exact hj) (by rw [HL1.out]; exact hpj)).mono ?_
        rintro e w3 ⟨rfl, h3, o3⟩
        have H3 := Lib.hid h3
        have O3 := Lib.hid (O2.out.trans o3 (fun _ _ h => h))
        clear h3 o3
        go_wp2_with (fail)
        go_roundw
        case rel =>
          have hl : lessE (atE L1 j) (atE L1 (par j)) := by simpa using HB2.out
          refine ⟨par j, swapL L1 j (par j), _, rfl, hpj, by rw [swapL_length]; exact HL1.out, H3.out, ?_, (swapL_perm L1 j (par j) (by rw [HL1.out]; exact hj) (by rw [HL1.out]; exact hpj)).trans P1.out, O3.out⟩
          exact upP_congr (up_step U1.out (by omega) hj hl) hpj (fun x hx => swapL_at L1 j (par j) (by rw [HL1.out]; exact hj) (by rw [HL1.out]; exact hpj) x (by rw [HL1.out]; exact hx))
        case measure => simp [intOf]; exact par_lt (by omega)
      | false =>
        have HB2 := Lib.hid hb2
        have U2 := Lib.hid (up_done U1.out (fun _ => leE_of_not (by simpa using hb2)))
        clear hb2
        go_wp2_with (fail)
        refine (less_is_h hb lb mb L1 D1 _ _ H1.out j (par j) (by rw [HL1.out]; exact hj) (by rw [HL1.out]; exact hpj) false HB2.out).mono ?_
        rintro e w2 ⟨rfl, o2⟩
        have H2 := Lib.hid (H1.out.only o2 id id id)
        have O2 := Lib.hid (O1.out.trans o2 (fun _ _ h => h.elim))
        clear o2 H1 O1 hp hp2 hj0 hpj HB2 U1
        have H1 := H2
        have O1 := O2
        clear H2 O2
        go_wp2_with (fail)
        go_loopw [1] (fun vi wr => ∃ (j : Nat) (L' : List En) (D' : DataW Unit), vi = .int .i64 j ∧ j < n ∧ L'.length = n ∧ HAt wr hb lb mb L' D' (.slice ao n cap) ∧ DownP (atE L') n j ∧ L'.Perm L ∧ Only (fun k => k = lb ∨ k = mb) w wr)
          (fun vi _ => n - (intOf vi).toNat)
        case atStart => exact ⟨_, L1, D1, rfl, hj, HL1.out, H1.out, U2.out, P1.out, O1.out⟩
        case round =>
          clear H1 U2 P1 O1 HL1 hj
          obtain ⟨j2, L2, D2, rfl, hj2, hl2, h2, u2, p2, o2⟩ := hrel
          have H2 := Lib.hid h2
          have U2 := Lib.hid u2
          have P2 := Lib.hid p2
          have O2 := Lib.hid o2
          have HL2 := Lib.hid hl2
          clear h2 u2 p2 o2 hl2
          go_wp2_with (fail)
          have B0 : Hid ((wr.alloc (Obj.cells #[Value.int IntKind.i64 (2 * ↑j2 + 1), Value.int IntKind.i64 (2 * ↑j2 + 2)] 3)).heap[wr.heap.size]? = some (.cells #[.int .i64 (2 * ↑j2 + 1), .int .i64 (2 * ↑j2 + 2)] 3 (0, 0))) := heap_alloc_new _ _
          have o3 : Only (fun _ => False) wr (wr.alloc (Obj.cells #[Value.int IntKind.i64 (2 * ↑j2 + 1), Value.int IntKind.i64 (2 * ↑j2 + 2)] 3)) := (Only.refl _ _).alloc _
          have H3 := Lib.hid (H2.out.only o3 id id id)
          have O3 := Lib.hid (O2.out.trans o3 (fun _ _ h => h.elim))
          generalize wr.alloc (Obj.cells #[Value.int IntKind.i64 (2 * ↑j2 + 1), Value.int IntKind.i64 (2 * ↑j2 + 2)] 3) = w3 at *
          obtain ⟨B, hB⟩ : ∃ B, B = wr.heap.size := ⟨_, rfl⟩
          rw [← hB] at B0
          rw [← hB]
          clear o3 hB H2 O2
          go_loopw [4, 35] (fun vc vs wq => ∃ (s c : Nat), vs = .int .i64 s ∧ vc = .int .i64 c ∧ s ≤ 2 ∧ c < n ∧ (c = j2 ∨ (par c = j2 ∧ 0 < c ∧ lessE (atE L2 c) (atE L2 j2))) ∧ (∀ d, 0 < d → d < n → par d = j2 → d < 2 * j2 + 1 + s → leE (atE L2 c) (atE L2 d)) ∧ leE (atE L2 c) (atE L2 j2) ∧ Only (fun _ => False) w3 wq)
            (fun _ vs _ => 2 - (intOf vs).toNat)
          case atStart => exact ⟨0, j2, rfl, rfl, by omega, hj2, .inl rfl, fun d d0 dn dp dl => by unfold par at dp; omega, leE_refl _, Only.refl _ _⟩
          case round =>
            obtain ⟨s, c, rfl, rfl, hs, hc, hcc, hcd, hcj, oq⟩ := hrel
            have HC := Lib.hid (And.intro hcc (And.intro hcd hcj))
            have OQ := Lib.hid oq
            clear hcc hcd hcj oq
            have HA := H3.out.only OQ.out id id id
            obtain ⟨b0, b1, b2⟩ := three_cells HA.head
            have HA' := Lib.hid HA
            clear HA b0 b2
            by_cases hs2 : s < 2
            · obtain ⟨kv, hkv⟩ : ∃ kv : Int, kv = ((2 * j2 + 1 + s : Nat) : Int) := ⟨_, rfl⟩
              have kc : wr.cell? ⟨B, s, none⟩ = some (.int .i64 kv) := by
                rw [cell_of_row wr _ _ _ _ _ (OQ.out.keep B0.out id), hkv]
                have : s = 0 ∨ s = 1 := by omega
                rcases this with rfl | rfl
                · simp
                · simp; omega
              by_cases hkn : 2 * j2 + 1 + s < n
              · have hkn' : kv < (n : Int) := by omega
                cases hb2 : decide (lessE (atE L2 (2 * j2 + 1 + s)) (atE L2 c)) with
                | true =>
                  have HB2 := Lib.hid hb2
                  have HKV := Lib.hid hkv
                  clear hb2 hkv
                  go_wp2_with (fail)
                  refine (less_is_i hb lb mb L2 D2 _ _ HA'.out (2 * j2 + 1 + s) c kv c HKV.out rfl (by rw [HL2.out]; exact hkn) (by rw [HL2.out]; exact hc) true HB2.out).mono ?_
                  rintro e w5 ⟨rfl, o5⟩
                  have O5 := Lib.hid (OQ.out.trans o5 (fun _ _ h => h))
                  clear o5
                  go_wp2
                  go_roundw
                  case rel =>
                    obtain ⟨hcc, hcd, hcj⟩ := HC.out
                    have hl : lessE (atE L2 (2 * j2 + 1 + s)) (atE L2 c) := by simpa using HB2.out
                    refine ⟨s + 1, 2 * j2 + 1 + s, by go_num, by rw [HKV.out], by omega, hkn, .inr ⟨by unfold par; omega, by omega, ?_⟩, fun d d0 dn dp dl => ?_, ?_, O5.out⟩
                    · unfold leE lessE at *; omega
                    · by_cases hd : d < 2 * j2 + 1 + s
                      · exact leE_trans (leE_of_less hl) (hcd d d0 dn dp hd)
                      · obtain rfl : d = 2 * j2 + 1 + s := by omega
                        exact leE_refl _
                    · exact leE_trans (leE_of_less hl) hcj
                  case measure => simp [intOf]; omega
                | false =>
                  have HB2 := Lib.hid hb2
                  have HKV := Lib.hid hkv
                  clear hb2 hkv
                  go_wp2_with (fail)
                  refine (less_is_i hb lb mb L2 D2 _ _ HA'.out (2 * j2 + 1 + s) c kv c HKV.out rfl (by rw [HL2.out]; exact hkn) (by rw [HL2.out]; exact hc) false HB2.out).mono ?_
                  rintro e w5 ⟨rfl, o5⟩
                  have O5 := Lib.hid (OQ.out.trans o5 (fun _ _ h => h))
                  clear o5
                  go_wp2
                  go_roundw
                  case rel =>
                    obtain ⟨hcc, hcd, hcj⟩ := HC.out
                    have hl : ¬ lessE (atE L2 (2 * j2 + 1 + s)) (atE L2 c) := by simpa using HB2.out
                    refine ⟨s + 1, c, by go_num, rfl, by omega, hc, hcc, fun d d0 dn dp dl => ?_, hcj, O5.out⟩
                    by_cases hd : d < 2 * j2 + 1 + s
                    · exact hcd d d0 dn dp hd
                    · obtain rfl : d = 2 * j2 + 1 + s := by omega
                      exact leE_of_not hl
                  case measure => simp [intOf]; omega
              · have hkn' : ¬ kv < (n : Int) := by omega
                have HKV := Lib.hid hkv
                clear hkv
                go_wp2_with (fail)
                go_roundw
                case rel =>
                  obtain ⟨hcc, hcd, hcj⟩ := HC.out
                  refine ⟨s + 1, c, by go_num, rfl, by omega, hc, hcc, fun d d0 dn dp dl => ?_, hcj, OQ.out⟩
                  exact hcd d d0 dn dp (by omega)
                case measure => simp [intOf]; omega
            · obtain rfl : s = 2 := by omega
              by_cases hcj2 : c = j2
              · subst hcj2
                go_wp2_with (fail)
                obtain ⟨-, hcd, -⟩ := HC.out
                refine bodyPost_ret (results_none rfl _ _ _) rfl ⟨rfl, L2, ⟨D2, by rw [← HN.out]; exact HA'.out⟩, ?_, P2.out, O3.out.trans (OQ.out.mono (fun _ h => h.elim)) (fun _ _ h => h)⟩
                rw [HL2.out]
                exact down_done U2.out (fun d d0 dn dp => hcd d d0 dn dp (by unfold par at dp; omega))
              · have hcj3 : ((c : Int) == (j2 : Int)) = false := by simp; omega
                go_wp2_with (fail)
                refine (h_swap hb lb mb L2 D2 _ _ HA'.out j2 c (by rw [HL2.out]; exact hj2) (by rw [HL2.out]; exact hc)).mono ?_
                rintro e w5 ⟨rfl, h5, o5⟩
                have H5 := Lib.hid h5
                have O5 := Lib.hid o5
                clear h5 o5
                go_wp2_with (fail)
                go_roundw
                case rel =>
                  obtain ⟨hcc, hcd, hcj⟩ := HC.out
                  rcases hcc with hcc | ⟨hp1, hp2, hp3⟩
                  · exact absurd hcc hcj2
                  · trace_state
                    refine ⟨c, swapL L2 j2 c, _, rfl, hc, by rw [swapL_length]; exact HL2.out, H5.out, ?_, (swapL_perm L2 j2 c (by rw [HL2.out]; exact hj2) (by rw [HL2.out]; exact hc)).trans P2.out, ?_⟩
                    · refine downP_congr (down_step U2.out hp2 hc hp1 hp3 (fun d d0 dn dp => hcd d d0 dn dp (by unfold par at dp; omega))) hc (fun x hx => ?_)
                      exact swapL_at L2 j2 c (by rw [HL2.out]; exact hj2) (by rw [HL2.out]; exact hc) x (by rw [HL2.out]; exact hx)
                    · exact (O3.out.trans (OQ.out.mono (fun _ h => h.elim)) (fun _ _ h => h)).trans O5.out (fun _ _ h => h)
                case measure =>
                  obtain ⟨hcc, -, -⟩ := HC.out
                  rcases hcc with hcc | ⟨hp1, hp2, hp3⟩
                  · exact absurd hcc hcj2
                  · simp [intOf]; unfold par at hp1; omega

end Go.Proofs.Ytnhiohgcoifniaa
