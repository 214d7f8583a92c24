/- The walk of the law LinkPlays: it returns true. -/
import Derived.Test.YtflcdbefakjcbaaO6
import Derived.Test.YtflcdbefakjcbaaM6
namespace Go.Proofs.Ytflcdbefakjcbaa
open Go.RowKit Go.Gav Go.BigFrame

set_option maxRecDepth 100000 in
theorem lplays_big (n room : Int) (a : Option Addr) (len cap : Nat) (w : World) (h : 200 < len) :
    Calls Try.prog 10 #[.int .i64 n, .int .i64 room, .slice a len cap] w fun e w' => e = .returned (.bool true) ∧ Only (fun _ => False) w w' := by
  go_enter Try.func10, Try.ntmps10
  go_wp2_with (fail)
  refine (awake_net _).mono ?_
  rintro e w1 ⟨rfl, o1⟩
  have O1 := Lib.hid o1
  clear o1
  go_wp2_with (fail)
  refine (awake_net _).mono ?_
  rintro e w2 ⟨rfl, o2⟩
  have O2 := Lib.hid o2
  clear o2
  go_wp2
  go_ret
  exact ⟨rfl, O1.out.trans O2.out (fun _ _ h => h)⟩

set_option maxRecDepth 100000 in
theorem lplays_off (n room : Int) (a : Option Addr) (len cap : Nat) (w : World) (h : len ≤ 200) (hb : n < 1 ∨ 8 < n ∨ room < 1 ∨ 65536 < room) :
    Calls Try.prog 10 #[.int .i64 n, .int .i64 room, .slice a len cap] w fun e w' => e = .returned (.bool true) ∧ Only (fun _ => False) w w' := by
  have HC := net_bad n room
  by_cases h1 : n < 1
  · go_enter Try.func10, Try.ntmps10
    go_wp2_with (fail)
    refine (awake_net _).mono ?_
    rintro e w1 ⟨rfl, o1⟩
    have O1 := Lib.hid o1
    clear o1
    go_wp2_with (first | (go_at_call 26; refine (HC _ hb).mono ?_; rintro e w2 ⟨rfl, rfl⟩) | fail)
    go_ret
    exact ⟨rfl, O1.out⟩
  · by_cases h2 : 8 < n
    · go_enter Try.func10, Try.ntmps10
      go_wp2_with (fail)
      refine (awake_net _).mono ?_
      rintro e w1 ⟨rfl, o1⟩
      have O1 := Lib.hid o1
      clear o1
      go_wp2_with (first | (go_at_call 26; refine (HC _ hb).mono ?_; rintro e w2 ⟨rfl, rfl⟩) | fail)
      go_ret
      exact ⟨rfl, O1.out⟩
    · by_cases h3 : room < 1
      · go_enter Try.func10, Try.ntmps10
        go_wp2_with (fail)
        refine (awake_net _).mono ?_
        rintro e w1 ⟨rfl, o1⟩
        have O1 := Lib.hid o1
        clear o1
        go_wp2_with (first | (go_at_call 26; refine (HC _ hb).mono ?_; rintro e w2 ⟨rfl, rfl⟩) | fail)
        go_ret
        exact ⟨rfl, O1.out⟩
      · have h4 : 65536 < room := by omega
        go_enter Try.func10, Try.ntmps10
        go_wp2_with (fail)
        refine (awake_net _).mono ?_
        rintro e w1 ⟨rfl, o1⟩
        have O1 := Lib.hid o1
        clear o1
        go_wp2_with (first | (go_at_call 26; refine (HC _ hb).mono ?_; rintro e w2 ⟨rfl, rfl⟩) | fail)
        go_ret
        exact ⟨rfl, O1.out⟩

/-- What holds between rounds. -/
structure Two (w wr : World) (xb mb rg n room i : Nat) (S : Nat → Prop) (L : List It) : Prop where
  net : Net wr S xb n room (onL L)
  mn : MN wr mb rg n room L
  grid : InG n L
  len : L.length ≤ i
  ne : ∀ q, S q → q ≠ mb ∧ q ≠ rg
  lo : w.heap.size ≤ mb ∧ w.heap.size ≤ rg ∧ ∀ q, S q → w.heap.size ≤ q
  lt : rg < wr.heap.size
  only : Only (fun _ => False) w wr

variable {w wr w2 w3 : World} {xb yb mb rg rg' n room i : Nat} {S S' : Nat → Prop} {L L' : List It}

theorem Two.keep (h : Two w wr xb mb rg n room i S L) (ho : Only (fun _ => False) wr w2) : Two w w2 xb mb rg n room i S L :=
  ⟨h.net.only ho (fun _ _ => id), h.mn.only ho id id, h.grid, h.len, h.ne, h.lo, Nat.lt_of_lt_of_le h.lt ho.size, h.only.trans ho (fun _ _ h => h)⟩

theorem MN.ltr (h : MN w mb rg n room L) (h0 : 0 < L.length) : rg < w.heap.size := by
  obtain ⟨ao, cap, h1, h2, h3, h4⟩ := h
  have := flat3_get L 0 h0
  exact World.block_lt_of_cell? w _ (h4 _ _ this.1)
theorem MN.re (h : MN w mb rg n room []) (rg2 : Nat) : MN w mb rg2 n room [] :=
  let ⟨ao, cap, h1, h2, _, _⟩ := h
  ⟨ao, cap, h1, h2, fun h => by simp at h, fun j u hj => by simp [flat3] at hj⟩

/-- A turn of both nets. -/
theorem Two.turn (h : Two w wr xb mb rg n room i S L) (hN : Net w2 S' xb n room (onL L')) (hS : ∀ q, S' q → S q ∨ wr.heap.size ≤ q) (ho : Only S wr w2)
    (hM : MN w3 mb rg' n room L') (hr : rg' = rg ∨ w2.heap.size ≤ rg') (ho2 : Only (fun k => k = mb) w2 w3) (hg : InG n L') (hl : L'.length ≤ i + 1) : ∃ rg2, Two w w3 xb mb rg2 n room (i + 1) S' L' := by
  have hml := h.mn.lt
  have hrl := h.lt
  have hz := ho.size
  have hz2 := ho2.size
  have hw := h.only.size
  have hlo := h.lo
  have hx : ∃ rg2, MN w3 mb rg2 n room L' ∧ (rg2 = rg ∨ w2.heap.size ≤ rg2) ∧ rg2 < w3.heap.size := by
    rcases Nat.eq_zero_or_pos L'.length with h0 | h0
    · have : L' = [] := List.eq_nil_of_length_eq_zero h0
      subst this
      exact ⟨rg, hM.re rg, .inl rfl, by omega⟩
    · exact ⟨rg', hM, hr, hM.ltr h0⟩
  obtain ⟨rg2, hM, hr, hlt⟩ := hx
  have hs' : ∀ q, S' q → q ≠ mb ∧ q ≠ rg2 := fun q hq => by
    have h2 := hN.lt q hq
    rcases hS q hq with h1 | h1
    · have := h.ne q h1
      have := h.net.lt q h1
      rcases hr with h3 | h3 <;> omega
    · rcases hr with h3 | h3 <;> omega
  refine ⟨rg2, hN.only ho2 (fun q hq => (hs' q hq).1), hM, hg, hl, hs', ⟨hlo.1, by rcases hr with h3 | h3 <;> omega, fun q hq => ?_⟩, hlt, (h.only.trans ho (fun j hj hh => by have := hlo.2.2 j hh; omega)).trans ho2 (fun j hj hh => by omega)⟩
  rcases hS q hq with h1 | h1
  · exact hlo.2.2 q h1
  · omega
theorem Two.up (h : Two w wr xb mb rg n room i S L) : Two w wr xb mb rg n room (i + 1) S L := ⟨h.net, h.mn, h.grid, by have := h.len; omega, h.ne, h.lo, h.lt, h.only⟩
/-- The net is let go of for another one. -/
theorem Two.other (h : Two w wr xb mb rg n room i S L) (hN : Net w2 S' yb n room (onL L)) (hS : ∀ q, S' q → wr.heap.size ≤ q) (ho : Only S wr w2) : Two w w2 yb mb rg n room i S' L := by
  have hml := h.mn.lt
  have hrl := h.lt
  have hz := ho.size
  have hw := h.only.size
  have hlo := h.lo
  exact ⟨hN, h.mn.only ho (fun hh => (h.ne _ hh).1 rfl) (fun hh => (h.ne _ hh).2 rfl), h.grid, h.len, fun q hq => by have := hS q hq; omega, ⟨hlo.1, hlo.2.1, fun q hq => by have := hS q hq; omega⟩, by omega, h.only.trans ho (fun j hj hh => by have := hlo.2.2 j hh; omega)⟩

set_option maxRecDepth 100000 in
set_option maxHeartbeats 2000000 in
theorem lplays_walk (n room : Nat) (a : Option Addr) (len cap : Nat) (D : Nat → Int) (X : Nat → Int × Int × Int) (w : World) (hn : 1 ≤ n ∧ n ≤ 8) (hr : 1 ≤ room ∧ room ≤ 65536) (hl : IsLacts w a len D X) (hlen : len ≤ 200) :
    Calls Try.prog 10 #[.int .i64 n, .int .i64 room, .slice a len cap] w fun e w' => e = .returned (.bool true) ∧ Only (fun _ => False) w w' := by
  have HL := Lib.hid hl
  clear hl
  go_enter Try.func10, Try.ntmps10
  go_wp2_with (fail)
  refine (awake_net _).mono ?_
  rintro e w1 ⟨rfl, o1⟩
  have O1 := Lib.hid o1
  clear o1
  go_wp2_with (fail)
  refine (net_new n room _ hn hr).mono ?_
  rintro e w2 ⟨S, xb, rfl, hnet, hS, o2⟩
  have O2 := Lib.hid (O1.out.trans o2 (fun _ _ h => h))
  have HS := Lib.hid (fun q hq => Nat.le_trans O1.out.size (hS q hq))
  have HN := Lib.hid hnet
  clear o2 hS hnet O1
  go_wp2_with (fail)
  -- THE LOOP
  have o3 : Only (fun _ => False) w2 (w2.alloc (.cells #[.int .i64 n, .int .i64 room, .slice none 0 0] 73)) := (Only.refl _ _).alloc _
  have z := heap_alloc_new w2 (.cells #[.int .i64 n, .int .i64 room, .slice none 0 0] 73)
  have hO : Two w (w2.alloc (.cells #[.int .i64 n, .int .i64 room, .slice none 0 0] 73)) xb w2.heap.size w2.heap.size n room 0 S [] :=
    ⟨HN.out.only o3 (fun _ _ => id), ⟨none, 0, z, by simp, fun h => by simp at h, fun j u hj => by simp [flat3] at hj⟩, fun y hy => by simp at hy, by simp, fun q hq => by have := HN.out.lt q hq; omega, ⟨O2.out.size, O2.out.size, HS.out⟩, by simp, O2.out.trans o3 (fun _ _ h => h)⟩
  have HO := Lib.hid hO
  clear hO z o3 HN HS O2
  generalize w2.alloc (.cells #[.int .i64 n, .int .i64 room, .slice none 0 0] 73) = w3 at *
  generalize w2.heap.size = mb at *
  go_loopw [7, 10] (fun vx vi wr => ∃ (i xb : Nat) (S : Nat → Prop) (L : List It) (rg : Nat), vx = .pointer (some ⟨xb, 0, none⟩) ∧ vi = .int .i64 i ∧ i ≤ len ∧ Hid (Two w wr xb mb rg n room i S L)) (fun _ vi _ => len - (intOf vi).toNat)
  case atStart => exact ⟨0, xb, S, [], mb, rfl, rfl, Nat.zero_le _, HO⟩
  case round =>
    clear HO
    obtain ⟨i, xb, S, L, rg, rfl, rfl, hil, HO⟩ := hrel
    by_cases hlt : i < len
    · obtain ⟨bb, off, rfl, hc⟩ := HL.out (by omega)
      obtain ⟨d0, y1, y2, y3, dlo, dhi, -⟩ := hc i hlt
      obtain ⟨x1, hx1⟩ : ∃ x, x = (X i).1 := ⟨_, rfl⟩
      obtain ⟨x2, hx2⟩ : ∃ x, x = (X i).2.1 := ⟨_, rfl⟩
      obtain ⟨x3, hx3⟩ : ∃ x, x = (X i).2.2 := ⟨_, rfl⟩
      rw [← hx1] at y1
      rw [← hx2] at y2
      rw [← hx3] at y3
      have e0 := HO.out.only.cell d0 id
      have e1 := HO.out.only.cell y1 id
      have e2 := HO.out.only.cell y2 id
      have e3 := HO.out.only.cell y3 id
      have h5 : D i % 5 = 0 ∨ D i % 5 = 1 ∨ D i % 5 = 2 ∨ D i % 5 = 3 ∨ D i % 5 = 4 := by omega
      clear d0 y1 y2 y3 hc hx1 hx2 hx3
      obtain ⟨d, hd⟩ : ∃ d, d = D i := ⟨_, rfl⟩
      rw [← hd] at dlo dhi e0 h5
      clear hd
      have z := heap_alloc_new wr (.cells #[.int .u8 d, .int .i64 x1, .int .i64 x2, .int .i64 x3] 56)
      have o4 : Only (fun _ => False) wr (wr.alloc (.cells #[.int .u8 d, .int .i64 x1, .int .i64 x2, .int .i64 x3] 56)) := (Only.refl _ _).alloc _
      have h4 := HO.out.keep o4
      have hne : ¬ S wr.heap.size ∧ wr.heap.size ≠ mb := ⟨fun hh => by have := HO.out.net.lt _ hh; omega, by have := HO.out.mn.lt; omega⟩
      have hb4 : wr.heap.size < (wr.alloc (.cells #[.int .u8 d, .int .i64 x1, .int .i64 x2, .int .i64 x3] 56)).heap.size := by simp
      have H4 := Lib.hid h4
      have HNE := Lib.hid hne
      clear h4 hne o4 HO
      go_upto_region 11 with fail
      have k0 : (wr.alloc (.cells #[.int .u8 d, .int .i64 x1, .int .i64 x2, .int .i64 x3] 56)).cell? ⟨wr.heap.size, 0, none⟩ = some (.int .u8 d) := by rw [cell_of_row _ _ _ _ _ _ z]; rfl
      have k1 : (wr.alloc (.cells #[.int .u8 d, .int .i64 x1, .int .i64 x2, .int .i64 x3] 56)).cell? ⟨wr.heap.size, 1, none⟩ = some (.int .i64 x1) := by rw [cell_of_row _ _ _ _ _ _ z]; rfl
      have k2 : (wr.alloc (.cells #[.int .u8 d, .int .i64 x1, .int .i64 x2, .int .i64 x3] 56)).cell? ⟨wr.heap.size, 2, none⟩ = some (.int .i64 x2) := by rw [cell_of_row _ _ _ _ _ _ z]; rfl
      have k3 : (wr.alloc (.cells #[.int .u8 d, .int .i64 x1, .int .i64 x2, .int .i64 x3] 56)).cell? ⟨wr.heap.size, 3, none⟩ = some (.int .i64 x3) := by rw [cell_of_row _ _ _ _ _ _ z]; rfl
      clear z e0 e1 e2 e3
      generalize wr.alloc (.cells #[.int .u8 d, .int .i64 x1, .int .i64 x2, .int .i64 x3] 56) = w4 at *
      have HAB := Lib.hid hb4
      clear hb4
      generalize wr.heap.size = ab at *
      rcases h5 with h5 | h5 | h5 | h5 | h5
      · (
          go_wp2_with (fail)
          go_region_held3 (fun w' => w'.cell? ⟨ab, 1, none⟩ = some (.int .i64 x1) ∧ w'.cell? ⟨ab, 2, none⟩ = some (.int .i64 x2) ∧ w'.cell? ⟨ab, 3, none⟩ = some (.int .i64 x3)) (first | exact ⟨k1, k2, k3⟩ | exact ⟨o5.cell k1 HNE.out.1, o5.cell k2 HNE.out.1, o5.cell k3 HNE.out.1⟩ | exact ⟨o6.cell (o5.cell k1 HNE.out.1) HNE.out.2, o6.cell (o5.cell k2 HNE.out.1) HNE.out.2, o6.cell (o5.cell k3 HNE.out.1) HNE.out.2⟩) (first | (go_at_call 27; refine (net_send_any x1 x2 x3 _ (H4.out.net.only ((Only.refl (fun _ => False) _).drewN 1) (fun _ _ => id))).mono ?_; rintro _ w5 ⟨rfl, ⟨S5, n5, l5⟩, o5⟩) | (go_at_call 33; refine (doc_send_any x1 x2 x3 _ ((H4.out.mn.only ((Only.refl (fun _ => False) _).drewN 1) id id).only o5 (fun hh => (H4.out.ne _ hh).1 rfl) (fun hh => (H4.out.ne _ hh).2 rfl)) H4.out.grid (by have := H4.out.len; omega)).mono ?_; rintro _ w6 ⟨rfl, ⟨rg6, L6, m6, e6, g6, l6, r6⟩, o6⟩))
          rw [← e6] at n5
          obtain ⟨rg7, t7⟩ := H4.out.turn n5 l5 (((Only.refl _ _).drewN 1).trans o5 (fun _ _ h => h)) m6 r6 o6 g6 (by have := H4.out.len; omega)
          have T := Lib.hid t7
          clear n5 l5 o5 m6 e6 g6 l6 r6 o6 t7 H4 k0 k1 k2 k3 HNE

          obtain ⟨ao, cp, m1, m2, -, -⟩ := T.out.mn
          have m3 : w6.cell? ⟨mb, 2, none⟩ = some (.slice ao L6.length cp) := by rw [cell_of_row w6 _ _ _ _ _ m1]; rfl
          have HCL : Hid (∀ w', Only (fun _ => False) w6 w' → Calls Try.prog 28 #[.pointer (some ⟨xb, 0, none⟩)] w' fun e w'' => e = .returned (.int .i64 L6.length) ∧ Only (fun _ => False) w' w'') := fun w' ho => by
            have hc := net_len w' (T.out.net.only ho (fun _ _ => id))
            rw [tot_onL L6 T.out.grid] at hc
            exact hc
          have hll := T.out.len
          obtain ⟨lm, hlm⟩ : ∃ lm, lm = L6.length := ⟨_, rfl⟩
          rw [← hlm] at m3 HCL hll
          clear m1 m2 hlm
          go_wp2_with (fail)
          go_region_held3 (fun w' => w'.cell? ⟨mb, 2, none⟩ = some (.slice ao lm cp)) (first | exact m3 | exact o8.cell m3 id) (first | (go_at_call 28; refine (HCL.out _ ((Only.refl _ _).drewN 1)).mono ?_; rintro _ w8 ⟨rfl, o8⟩))
          go_wp2
          go_roundw
          case rel => exact ⟨i + 1, xb, S5, L6, rg7, rfl, by go_num, by omega, T.out.keep (((Only.refl _ _).drewN 1).trans o8 (fun _ _ h => h))⟩
          case measure => simp [intOf]; omega)
      · (
          go_wp2_with (fail)
          go_region_held3 (fun w' => w'.cell? ⟨ab, 1, none⟩ = some (.int .i64 x1) ∧ w'.cell? ⟨ab, 2, none⟩ = some (.int .i64 x2) ∧ w'.cell? ⟨ab, 3, none⟩ = some (.int .i64 x3)) (first | exact ⟨k1, k2, k3⟩ | exact ⟨o5.cell k1 HNE.out.1, o5.cell k2 HNE.out.1, o5.cell k3 HNE.out.1⟩ | exact ⟨o6.cell (o5.cell k1 HNE.out.1) HNE.out.2, o6.cell (o5.cell k2 HNE.out.1) HNE.out.2, o6.cell (o5.cell k3 HNE.out.1) HNE.out.2⟩) (first | (go_at_call 27; refine (net_send_any x1 x2 x3 _ (H4.out.net.only ((Only.refl (fun _ => False) _).drewN 1) (fun _ _ => id))).mono ?_; rintro _ w5 ⟨rfl, ⟨S5, n5, l5⟩, o5⟩) | (go_at_call 33; refine (doc_send_any x1 x2 x3 _ ((H4.out.mn.only ((Only.refl (fun _ => False) _).drewN 1) id id).only o5 (fun hh => (H4.out.ne _ hh).1 rfl) (fun hh => (H4.out.ne _ hh).2 rfl)) H4.out.grid (by have := H4.out.len; omega)).mono ?_; rintro _ w6 ⟨rfl, ⟨rg6, L6, m6, e6, g6, l6, r6⟩, o6⟩))
          rw [← e6] at n5
          obtain ⟨rg7, t7⟩ := H4.out.turn n5 l5 (((Only.refl _ _).drewN 1).trans o5 (fun _ _ h => h)) m6 r6 o6 g6 (by have := H4.out.len; omega)
          have T := Lib.hid t7
          clear n5 l5 o5 m6 e6 g6 l6 r6 o6 t7 H4 k0 k1 k2 k3 HNE

          obtain ⟨ao, cp, m1, m2, -, -⟩ := T.out.mn
          have m3 : w6.cell? ⟨mb, 2, none⟩ = some (.slice ao L6.length cp) := by rw [cell_of_row w6 _ _ _ _ _ m1]; rfl
          have HCL : Hid (∀ w', Only (fun _ => False) w6 w' → Calls Try.prog 28 #[.pointer (some ⟨xb, 0, none⟩)] w' fun e w'' => e = .returned (.int .i64 L6.length) ∧ Only (fun _ => False) w' w'') := fun w' ho => by
            have hc := net_len w' (T.out.net.only ho (fun _ _ => id))
            rw [tot_onL L6 T.out.grid] at hc
            exact hc
          have hll := T.out.len
          obtain ⟨lm, hlm⟩ : ∃ lm, lm = L6.length := ⟨_, rfl⟩
          rw [← hlm] at m3 HCL hll
          clear m1 m2 hlm
          go_wp2_with (fail)
          go_region_held3 (fun w' => w'.cell? ⟨mb, 2, none⟩ = some (.slice ao lm cp)) (first | exact m3 | exact o8.cell m3 id) (first | (go_at_call 28; refine (HCL.out _ ((Only.refl _ _).drewN 1)).mono ?_; rintro _ w8 ⟨rfl, o8⟩))
          go_wp2
          go_roundw
          case rel => exact ⟨i + 1, xb, S5, L6, rg7, rfl, by go_num, by omega, T.out.keep (((Only.refl _ _).drewN 1).trans o8 (fun _ _ h => h))⟩
          case measure => simp [intOf]; omega)
      · (
          go_wp2_with (fail)
          go_region_held3 (fun w' => w'.cell? ⟨ab, 1, none⟩ = some (.int .i64 x1) ∧ w'.cell? ⟨ab, 2, none⟩ = some (.int .i64 x2) ∧ w'.cell? ⟨ab, 3, none⟩ = some (.int .i64 x3)) (first | exact ⟨k1, k2, k3⟩ | exact ⟨o5.cell k1 HNE.out.1, o5.cell k2 HNE.out.1, o5.cell k3 HNE.out.1⟩ | exact ⟨o6.cell (o5.cell k1 HNE.out.1) HNE.out.2, o6.cell (o5.cell k2 HNE.out.1) HNE.out.2, o6.cell (o5.cell k3 HNE.out.1) HNE.out.2⟩) (first | (go_at_call 27; refine (net_send_any x1 x2 x3 _ (H4.out.net.only ((Only.refl (fun _ => False) _).drewN 1) (fun _ _ => id))).mono ?_; rintro _ w5 ⟨rfl, ⟨S5, n5, l5⟩, o5⟩) | (go_at_call 33; refine (doc_send_any x1 x2 x3 _ ((H4.out.mn.only ((Only.refl (fun _ => False) _).drewN 1) id id).only o5 (fun hh => (H4.out.ne _ hh).1 rfl) (fun hh => (H4.out.ne _ hh).2 rfl)) H4.out.grid (by have := H4.out.len; omega)).mono ?_; rintro _ w6 ⟨rfl, ⟨rg6, L6, m6, e6, g6, l6, r6⟩, o6⟩))
          rw [← e6] at n5
          obtain ⟨rg7, t7⟩ := H4.out.turn n5 l5 (((Only.refl _ _).drewN 1).trans o5 (fun _ _ h => h)) m6 r6 o6 g6 (by have := H4.out.len; omega)
          have T := Lib.hid t7
          clear n5 l5 o5 m6 e6 g6 l6 r6 o6 t7 H4 k0 k1 k2 k3 HNE

          obtain ⟨ao, cp, m1, m2, -, -⟩ := T.out.mn
          have m3 : w6.cell? ⟨mb, 2, none⟩ = some (.slice ao L6.length cp) := by rw [cell_of_row w6 _ _ _ _ _ m1]; rfl
          have HCL : Hid (∀ w', Only (fun _ => False) w6 w' → Calls Try.prog 28 #[.pointer (some ⟨xb, 0, none⟩)] w' fun e w'' => e = .returned (.int .i64 L6.length) ∧ Only (fun _ => False) w' w'') := fun w' ho => by
            have hc := net_len w' (T.out.net.only ho (fun _ _ => id))
            rw [tot_onL L6 T.out.grid] at hc
            exact hc
          have hll := T.out.len
          obtain ⟨lm, hlm⟩ : ∃ lm, lm = L6.length := ⟨_, rfl⟩
          rw [← hlm] at m3 HCL hll
          clear m1 m2 hlm
          go_wp2_with (fail)
          go_region_held3 (fun w' => w'.cell? ⟨mb, 2, none⟩ = some (.slice ao lm cp)) (first | exact m3 | exact o8.cell m3 id) (first | (go_at_call 28; refine (HCL.out _ ((Only.refl _ _).drewN 1)).mono ?_; rintro _ w8 ⟨rfl, o8⟩))
          go_wp2
          go_roundw
          case rel => exact ⟨i + 1, xb, S5, L6, rg7, rfl, by go_num, by omega, T.out.keep (((Only.refl _ _).drewN 1).trans o8 (fun _ _ h => h))⟩
          case measure => simp [intOf]; omega)
      · (
          obtain ⟨hv, hb, hhv⟩ : ∃ (hv : Int) (hb : Bool), headV (onL L (x1, x2)) = .tuple #[.int .i64 hv, .bool hb] := ⟨_, _, rfl⟩
          have HT := net_take x1 x2 _ H4.out.net
          rw [hhv] at HT
          have HHV := Lib.hid hhv
          clear hhv
          go_wp2_with (fail)
          refine HT.mono ?_
          rintro e w5 ⟨rfl, n5, o5⟩
          have m5 := Lib.hid (H4.out.mn.only o5 (fun hh => (H4.out.ne _ hh).1 rfl) (fun hh => (H4.out.ne _ hh).2 rfl))
          have k1' := o5.cell k1 HNE.out.1
          have k2' := o5.cell k2 HNE.out.1
          have N5 := Lib.hid n5
          have O5 := Lib.hid o5
          clear HT
          clear n5 o5 k0 k1 k2 k3
          have HT := doc_take_any x1 x2 _ m5.out H4.out.grid (by have := H4.out.len; omega)
          rw [HHV.out] at HT
          go_wp2_with (fail)
          refine HT.mono ?_
          rintro e w6 ⟨rfl, ⟨rg6, L6, m6, e6, g6, l6, r6⟩, o6⟩
          have n5 := N5.out
          rw [← e6] at n5
          obtain ⟨rg7, t7⟩ := H4.out.turn n5 (fun _ h => .inl h) O5.out m6 r6 o6 g6 (by have := H4.out.len; omega)
          have T := Lib.hid t7
          clear HT
          clear n5 N5 O5 m5 m6 e6 g6 l6 r6 o6 t7 H4 k1' k2' HNE

          obtain ⟨ao, cp, m1, m2, -, -⟩ := T.out.mn
          have m3 : w6.cell? ⟨mb, 2, none⟩ = some (.slice ao L6.length cp) := by rw [cell_of_row w6 _ _ _ _ _ m1]; rfl
          have HCL : Hid (∀ w', Only (fun _ => False) w6 w' → Calls Try.prog 28 #[.pointer (some ⟨xb, 0, none⟩)] w' fun e w'' => e = .returned (.int .i64 L6.length) ∧ Only (fun _ => False) w' w'') := fun w' ho => by
            have hc := net_len w' (T.out.net.only ho (fun _ _ => id))
            rw [tot_onL L6 T.out.grid] at hc
            exact hc
          have hll := T.out.len
          obtain ⟨lm, hlm⟩ : ∃ lm, lm = L6.length := ⟨_, rfl⟩
          rw [← hlm] at m3 HCL hll
          clear m1 m2 hlm
          go_wp2_with (fail)
          go_region_held3 (fun w' => w'.cell? ⟨mb, 2, none⟩ = some (.slice ao lm cp)) (first | exact m3 | exact o8.cell m3 id) (first | (go_at_call 28; refine (HCL.out _ ((Only.refl _ _).drewN 1)).mono ?_; rintro _ w8 ⟨rfl, o8⟩))
          go_wp2
          go_roundw
          case rel => exact ⟨i + 1, xb, S, L6, rg7, rfl, by go_num, by omega, T.out.keep (((Only.refl _ _).drewN 1).trans o8 (fun _ _ h => h))⟩
          case measure => simp [intOf]; omega)
      · (
          go_wp2_with (fail)
          refine (net_copy _ H4.out.net).mono ?_
          rintro e w5 ⟨Sc, yb, rfl, nc, lc, o5⟩
          have NC := Lib.hid nc
          have LC := Lib.hid lc
          have T5 := Lib.hid (H4.out.keep o5)
          have k1' := o5.cell k1 id
          have k2' := o5.cell k2 id
          have k3' := o5.cell k3 id
          have HSC := Lib.hid (show ∀ q, Sc q → ¬ S q from fun q hq hs => by have := lc q hq; have := H4.out.net.lt q hs; omega)
          have O5 := Lib.hid o5
          clear nc lc o5 k0 k1 k2 k3
          go_wp2_with (fail)
          refine (net_send_any x1 x2 x3 _ T5.out.net).mono ?_
          rintro e w6 ⟨rfl, ⟨S6, n6, l6⟩, o6⟩
          have hab := HAB.out
          have k1 := o6.cell k1' (fun hh => by have := H4.out.net.lt _ hh; exact HNE.out.1 hh)
          have k2 := o6.cell k2' (fun hh => by have := H4.out.net.lt _ hh; exact HNE.out.1 hh)
          have N6 := Lib.hid n6
          have L6 := Lib.hid l6
          have O6 := Lib.hid o6
          clear n6 l6 o6 k1' k2' k3'
          go_wp2_with (fail)
          refine (net_take x2 x1 _ N6.out).mono ?_
          rintro e w7 ⟨rfl, n7, o7⟩
          have hw45 := O5.out.size
          have nc7 := (NC.out.only O6.out (fun q hq => HSC.out q hq)).only o7 (fun q hq hs => by
            have h1 := NC.out.lt q hq
            rcases L6.out q hs with h2 | h2
            · exact HSC.out q hq h2
            · omega)
          have o47 : Only S w4 w7 := ((O5.out.mono (fun _ h => h.elim)).trans O6.out (fun _ _ h => h)).trans o7 (fun j hj hs => by
            rcases L6.out j hs with h2 | h2
            · exact h2
            · omega)
          have T := Lib.hid ((H4.out.other nc7 LC.out o47).up)
          clear n7 o7 nc7 o47 T5 k1 k2 H4 HNE HSC NC N6 L6 O5 O6
          unfold headV

          obtain ⟨ao, cp, m1, m2, -, -⟩ := T.out.mn
          have m3 : w7.cell? ⟨mb, 2, none⟩ = some (.slice ao L.length cp) := by rw [cell_of_row w7 _ _ _ _ _ m1]; rfl
          have HCL : Hid (∀ w', Only (fun _ => False) w7 w' → Calls Try.prog 28 #[.pointer (some ⟨yb, 0, none⟩)] w' fun e w'' => e = .returned (.int .i64 L.length) ∧ Only (fun _ => False) w' w'') := fun w' ho => by
            have hc := net_len w' (T.out.net.only ho (fun _ _ => id))
            rw [tot_onL L T.out.grid] at hc
            exact hc
          have hll := T.out.len
          obtain ⟨lm, hlm⟩ : ∃ lm, lm = L.length := ⟨_, rfl⟩
          rw [← hlm] at m3 HCL hll
          clear m1 m2 hlm
          go_wp2_with (fail)
          go_region_held3 (fun w' => w'.cell? ⟨mb, 2, none⟩ = some (.slice ao lm cp)) (first | exact m3 | exact o8.cell m3 id) (first | (go_at_call 28; refine (HCL.out _ ((Only.refl _ _).drewN 1)).mono ?_; rintro _ w8 ⟨rfl, o8⟩))
          go_wp2
          go_roundw
          case rel => exact ⟨i + 1, yb, Sc, L, rg, rfl, by go_num, by omega, T.out.keep (((Only.refl _ _).drewN 1).trans o8 (fun _ _ h => h))⟩
          case measure => simp [intOf]; omega)
    · obtain rfl : i = len := by omega
      go_wp2
      go_ret
      exact ⟨rfl, HO.out.only⟩

end Go.Proofs.Ytflcdbefakjcbaa
