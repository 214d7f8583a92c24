/- The walk of the law HeapPops: it returns true. -/
import Derived.Test.YtnhiohgcoifniaaJ1
import Derived.Laws.AppendOwn
namespace Go.Proofs.Ytnhiohgcoifniaa
open Go.RowKit Go.Gav Go.BigFrame

theorem info3 : (Try.prog.info? 3).map (fun i => (i.zero, i.size, i.bytes)) = some (some (.int .i64 0), 1, 8) := by kernel_rfl

/-- The one that was popped last. -/
def lastE (S : List En) (j : Nat) : En := if j = 0 then (0, 0) else atE S (j - 1)

theorem drop_cons (S : List En) (j : Nat) (h : j < S.length) : S.drop j = atE S j :: S.drop (j + 1) := by
  rw [atE_get S j h]; exact List.drop_eq_getElem_cons h

theorem last_less {S : List En} (h : SortedE S) {j : Nat} (hj : j < S.length) (h0 : 0 < j) : lessE (lastE S j) (atE S j) := by
  unfold lastE
  rw [if_neg (by omega), atE_get S _ (by omega), atE_get S j hj]
  exact List.pairwise_iff_getElem.1 h (j - 1) j (by omega) hj (by omega)

theorem met_not {S : List En} (h : KeysND S) {j : Nat} (hj : j < S.length) : ∀ y ∈ (S.take j).map (·.1), y ≠ (atE S j).1 := by
  intro y hy e
  obtain ⟨x, hx, rfl⟩ := List.mem_map.1 hy
  obtain ⟨i, hi, e2⟩ := List.getElem_of_mem hx
  rw [List.length_take] at hi
  rw [List.getElem_take] at e2
  have : i = j := nd_inj h (by omega) hj (by rw [atE_get S i (by omega), e2, e])
  omega

set_option maxRecDepth 100000 in
set_option maxHeartbeats 4000000 in
theorem pops_walk (a : Option Addr) (len cap : Nat) (D : Nat → Int) (X : Nat → Int × Int) (w : World) (hl : IsActs w a len D X) (hlen : len ≤ 200) :
    Calls Try.prog 5 #[.slice a len cap] w fun e w' => e = .returned (.bool true) ∧ Only (fun _ => False) w w' := by
  have HL := Lib.hid hl
  clear hl
  go_enter Try.func5, Try.ntmps5
  go_wp2_with (fail)
  refine (awake_true _).mono ?_
  rintro e w1 ⟨rfl, o1⟩
  have O1 := Lib.hid o1
  clear o1
  go_wp2_with (fail)
  refine (h_new _).mono ?_
  rintro e w2 ⟨hb, l0, mb, rfl, h2, b1, b2, b3, o2⟩
  have H2 := Lib.hid h2
  have O2 := Lib.hid (O1.out.trans o2 (fun _ _ h => h))
  have hww := O1.out.size
  have HB : Hid (w.heap.size ≤ hb ∧ w.heap.size ≤ mb) := ⟨by omega, by omega⟩
  have hl0 : w.heap.size ≤ l0 := by omega
  clear h2 o2 b1 b2 b3 hww
  go_wp2
  go_loopw [4] (fun vi wr => ∃ (i lb : Nat) (S : List En), vi = .int .i64 i ∧ i ≤ len ∧ HRep wr hb lb mb S ∧ S.length ≤ i ∧ w.heap.size ≤ lb ∧ Only (fun _ => False) w wr)
    (fun vi _ => len - (intOf vi).toNat)
  case atStart => exact ⟨0, l0, [], rfl, Nat.zero_le _, H2.out, Nat.le_refl _, hl0, O2.out⟩
  case round =>
    clear H2 O2 hl0
    obtain ⟨i, lb, S, rfl, hi, hr, hs, hlb, ho⟩ := hrel
    have HR := Lib.hid hr
    have HO := Lib.hid ho
    clear hr ho
    by_cases hlt : i < len
    · obtain ⟨bb, off, rfl, hc⟩ := HL.out (by omega)
      obtain ⟨d0, x0, y0, dlo, dhi, hkx⟩ := hc i hlt
      have e0 := HO.out.cell d0 id
      have e1 := HO.out.cell x0 id
      have e2 := HO.out.cell y0 id
      clear d0 x0 y0 hc
      obtain ⟨⟨kx, bx⟩, hxi⟩ : ∃ xi, xi = X i := ⟨_, rfl⟩
      rw [← hxi] at e1 e2 hkx
      simp only at e1 e2 hkx
      clear hxi
      go_wp2_with (fail)
      refine (h_done hb lb mb S (D i) kx bx dlo dhi hkx _ HR.out (by omega)).mono ?_
      rintro e w4 ⟨rfl, lb4, h4, g4, o4⟩
      have H4 := Lib.hid h4
      have hlen4 := doS_length S (D i) (kx, bx)
      have O4 : Hid (Only (fun _ => False) w w4) := HO.out.trans o4 (fun j hj h => by have := HB.out; omega)
      have L4 : w.heap.size ≤ lb4 := by
        rcases g4 with g4 | g4
        · omega
        · have := HO.out.size; omega
      clear h4 g4 o4
      go_wp2_with (fail)
      go_roundw
      case rel => exact ⟨i + 1, lb4, _, by go_num, by omega, H4.out, by omega, L4, O4.out⟩
      case measure => simp [intOf]; omega
    · have hsl : S.length ≤ 200 := by omega
      obtain ⟨n, hn⟩ : ∃ n, n = S.length := ⟨_, rfl⟩
      go_wp2_with (fail)
      refine (h_len hb lb mb S _ HR.out).mono ?_
      rintro e w4 ⟨rfl, rfl⟩
      rw [← hn]
      rw [← hn] at hsl
      have HN := Lib.hid hn
      have HND := Lib.hid (And.intro HR.out.nd HR.out.range)
      have hlts := HR.out.lts
      have HSO : Hid (SortedE S) := let ⟨_, _, _, _, _, c⟩ := HR.out; c.sorted
      obtain ⟨i0, hi0, hz0, hz1, hz2⟩ := info_parts info3
      clear hn hs
      go_wp2_with (fail)
      have kb : (w4.alloc (Obj.cells #[Value.int IntKind.i64 0, Value.int IntKind.i64 0] 40)).heap[w4.heap.size]? = some (.cells #[.int .i64 0, .int .i64 0] 40 (0, 0)) := heap_alloc_new _ _
      have H5 := Lib.hid (HR.out.only ((Only.refl (fun _ => False) w4).alloc (Obj.cells #[Value.int IntKind.i64 0, Value.int IntKind.i64 0] 40)) id id id)
      have O5 := Lib.hid (HO.out.alloc (Obj.cells #[Value.int IntKind.i64 0, Value.int IntKind.i64 0] 40))
      have KB := Lib.hid kb
      have hszl : w.heap.size ≤ w4.heap.size := HO.out.size
      have hs5 : (w4.alloc (Obj.cells #[Value.int IntKind.i64 0, Value.int IntKind.i64 0] 40)).heap.size = w4.heap.size + 1 := by simp
      have HS5 := Lib.hid hs5
      generalize w4.alloc (Obj.cells #[Value.int IntKind.i64 0, Value.int IntKind.i64 0] 40) = w5 at *
      clear kb HR HO hs5
      go_loopw [6, 8] (fun vm vi wr => ∃ j : Nat, vi = .int .i64 j ∧ j ≤ n ∧ HRep wr hb lb mb (S.drop j) ∧ wr.ownsRow w5.heap.size 3 1 vm j (((S.take j).map (·.1)).map (Value.int .i64)) ∧ wr.heap[w4.heap.size]? = some (.cells #[.int .i64 (lastE S j).1, .int .i64 (lastE S j).2] 40 (0, 0)) ∧ Only (fun k => k = hb ∨ k = lb ∨ k = mb ∨ k = w4.heap.size) w5 wr)
        (fun _ vi _ => n - (intOf vi).toNat)
      case atStart => exact ⟨0, rfl, Nat.zero_le _, H5.out, by simpa using World.ownsRow_nil w5 w5.heap.size 3 1, KB.out, Only.refl _ _⟩
      case round =>
        clear H5 KB
        obtain ⟨j, rfl, hj, h6, own6, kb6, o6⟩ := hrel
        have H6 := Lib.hid h6
        have OWN6 := Lib.hid own6
        have KB6 := Lib.hid kb6
        have O6 := Lib.hid o6
        clear h6 own6 kb6 o6
        by_cases hjn : j < n
        · have hjS : j < S.length := by rw [← HN.out]; exact hjn
          have hdc := drop_cons S j hjS
          obtain ⟨⟨x1, x2⟩, hx⟩ : ∃ x, x = atE S j := ⟨_, rfl⟩
          have HX := Lib.hid hx
          rw [← hx] at hdc
          rw [hdc] at H6
          have hrg := H6.out.range
          have hx1 : I64 x1 := hrg (x1, x2) (by simp)
          have hgs : getS ((x1, x2) :: S.drop (j + 1)) x1 = some x2 := getS_some H6.out.nd (x := (x1, x2)) (by simp)
          have HGS := Lib.hid hgs
          have HRG := Lib.hid hrg
          clear hx hdc hrg hgs hjS
          go_wp2_with (fail)
          refine (first_key hb lb mb _ _ H6.out).mono ?_
          rintro e w7 ⟨rfl, o7⟩
          rw [show headE ((x1, x2) :: S.drop (j + 1)) = (x1, x2) from rfl]
          have H7 := Lib.hid (H6.out.only o7 id id id)
          have O7 := Lib.hid (O6.out.trans o7 (fun _ _ h => h.elim))
          have KB7 := Lib.hid (o7.keep KB6.out id)
          have OWN7 := Lib.hid (ownsRow_only OWN6.out o7 (fun _ _ => id))
          clear o7 H6 O6 KB6 OWN6
          go_wp2_with (fail)
          refine (h_get hb lb mb _ x1 hx1 _ H7.out).mono ?_
          rintro e w8 ⟨rfl, rfl⟩
          rw [HGS.out]
          simp only [Option.getD_some, Option.isSome_some]
          go_wp2_with (fail)
          refine (h_pop hb lb mb _ HRG.out _ H7.out).mono ?_
          rintro e w9 ⟨rfl, h9, o9⟩
          rw [show headE ((x1, x2) :: S.drop (j + 1)) = (x1, x2) from rfl]
          simp only [List.isEmpty_cons, Bool.not_false]
          have hs5 := HS5.out
          have hs7 := O7.out.size
          have H9 : Hid (HRep w9 hb lb mb (S.drop (j + 1))) := h9
          have O9 : Hid (Only (fun k => k = hb ∨ k = lb ∨ k = mb ∨ k = w4.heap.size) w5 w9) := O7.out.trans o9 (fun k hk h => by omega)
          have KB9 := Lib.hid (o9.keep KB7.out (fun h => by omega))
          have OWN9 := Lib.hid (ownsRow_only OWN7.out o9 (fun k hk h => by omega))
          obtain ⟨c0, c1⟩ := two_cells KB9.out
          have f0 : w9.frozen? ⟨w4.heap.size, 0, none⟩ = false := free_of_row KB9.out
          have f1 : w9.frozen? ⟨w4.heap.size, 1, none⟩ = false := free_of_row KB9.out
          have hlt9 := lt_of_block KB9.out
          obtain ⟨⟨y1, y2⟩, hy⟩ : ∃ y, y = lastE S j := ⟨_, rfl⟩
          rw [← hy] at c0 c1
          simp only at c0 c1
          have HY := Lib.hid hy
          clear h9 o9 H7 O7 KB7 OWN7 hy hs7
          have HMN := Lib.hid (met_not HND.out.1 (by rw [← HN.out]; exact hjn))
          by_cases hj0 : j = 0
          · have HJ0 := Lib.hid hj0
            have hjf : decide (0 < j) = false := by simp; exact hj0
            clear hj0
            go_wp2_with (fail)
            obtain ⟨wc, hwc⟩ : ∃ wc, wc = w9.alloc (Obj.cells #[Value.int IntKind.i64 x1, Value.int IntKind.i64 x2] 40) := ⟨_, rfl⟩
            have oc : Only (fun _ => False) w9 wc := by rw [hwc]; exact (Only.refl _ _).alloc _
            have KX : Hid (wc.heap[w9.heap.size]? = some (.cells #[.int .i64 x1, .int .i64 x2] 40 (0, 0))) := by rw [hwc]; exact heap_alloc_new _ _
            have HC := Lib.hid (H9.out.only oc id id id)
            have OC := Lib.hid (O9.out.trans oc (fun _ _ h => h.elim))
            have KBC := Lib.hid (oc.keep KB9.out id)
            have OWNC := Lib.hid (ownsRow_only OWN9.out oc (fun _ _ => id))
            have hszc : w5.heap.size ≤ wc.heap.size := OC.out.size
            have hrow : Hid (∀ q, u6.ownBlock = some q → w5.heap.size ≤ q ∧ q < w9.heap.size) := fun q hq => OWN9.out.lt q hq
            have hs9 : w5.heap.size ≤ w9.heap.size := O9.out.size
            rw [← hwc]
            clear hwc oc H9 O9 KB9 OWN9 c0 c1 f0 f1
            (
              refine (contains_not u6 ((S.take j).map (·.1)) x1 _ (reads_of_owns OWNC.out).2 (by have := HMN.out; rw [← HX.out] at this; exact this) (by rw [List.length_map, List.length_take]; omega)).mono ?_
              rintro e wz ⟨rfl, hwz⟩
              rw [hwz]
              clear hwz wz
              obtain ⟨k0, k1⟩ := two_cells KX.out
              go_wp2_with (at_builtin; refine wpList_append_own _ rfl (.tmp 84) (.tmp 87) 48 rfl w5.heap.size 3 i0 (.int .i64 0) 1 8 Try.underlying48 hi0 hz0 hz1 hz2 rfl (by decide) _ j _ rfl (OWNC.out.alloc _) ⟨wc.heap.size, 0, none⟩ 1 1 [.int .i64 x1] rfl rfl (cell_one_new _ _ _) (by simp [Value.oneCell']) (by unfold maxLen; omega) (by omega) (by simp; omega) ?_; intro vd wd ownd hgrd _; have OWND := Lib.hid ownd; have od : Only (fun q => u6.ownBlock = some q) wc wd := ((Only.refl (fun q => u6.ownBlock = some q) wc).alloc _).grown hgrd (fun q hq => .inl hq); have kxd := od.keep KX.out (fun h => by have := hrow.out _ h; omega); have kbd := od.keep KBC.out (fun h => by have := hrow.out _ h; omega); obtain ⟨m0, m1⟩ := two_cells kxd; obtain ⟨r0, r1⟩ := two_cells kbd; have s0 : wd.frozen? ⟨w4.heap.size, 0, none⟩ = false := free_of_row kbd; have s1 : wd.frozen? ⟨w4.heap.size, 1, none⟩ = false := free_of_row kbd; have KBD := Lib.hid kbd; have OD := Lib.hid od; clear ownd hgrd od kxd kbd)
              have oE : Only (fun q => q = w4.heap.size) wd ((wd.setCell ⟨w4.heap.size, 0, none⟩ (.int .i64 x1)).setCell ⟨w4.heap.size, 1, none⟩ (.int .i64 x2)) := Only.setAt (Only.setAt (Only.refl (fun q => q = w4.heap.size) wd) 0 _) 1 _
              have hjS : j < S.length := by rw [← HN.out]; exact hjn
              have hse : ((S.take (j + 1)).map (·.1)).map (Value.int .i64) = ((S.take j).map (·.1)).map (Value.int .i64) ++ [.int .i64 x1] := by
                rw [List.take_succ_eq_append_getElem hjS, ← atE_get S j hjS, ← HX.out]; simp
              have hle : lastE S (j + 1) = (x1, x2) := by unfold lastE; rw [if_neg (by omega), Nat.add_sub_cancel, ← HX.out]
              have kf := hp_same (j := 1) (hp_same (j := 0) KBD.out (.int .i64 x1)) (.int .i64 x2)
              refine ⟨⟨j + 1, by go_num, by omega, (HC.out.only OD.out (fun h => by have := hrow.out _ h; omega) (fun h => by have := hrow.out _ h; omega) (fun h => by have := hrow.out _ h; omega)).only oE (fun h => by omega) (fun h => by omega) (fun h => by omega), ?_, ?_, ?_⟩, by simp [intOf]; omega⟩
              · rw [hse]; exact ownsRow_only OWND.out oE (fun q hq h => by omega)
              · rw [hle]; simpa using kf
              · exact (OC.out.trans OD.out (fun q hq h => by have := hrow.out _ h; omega)).trans oE (fun q hq h => .inr (.inr (.inr h))))
          · have hjt : decide (0 < j) = true := by simp; omega
            have hord : ordE (y1, y2) (x1, x2) = -1 := by
              unfold ordE
              rw [if_pos (by rw [HY.out, HX.out]; exact last_less HSO.out (by rw [← HN.out]; exact hjn) (by omega))]
            have HORD := Lib.hid hord
            clear hord hj0
            go_wp2_with (fail)
            refine (order_is y1 y2 x1 x2 (-1) HORD.out _).mono ?_
            rintro e wc ⟨rfl, oc'⟩
            have oc : Only (fun _ => False) w9 wc := ((Only.refl (fun _ => False) w9).alloc _).trans oc' (fun _ _ h => h)
            have KX : Hid (wc.heap[w9.heap.size]? = some (.cells #[.int .i64 x1, .int .i64 x2] 40 (0, 0))) := oc'.keep (heap_alloc_new _ _) id
            have HC := Lib.hid (H9.out.only oc id id id)
            have OC := Lib.hid (O9.out.trans oc (fun _ _ h => h.elim))
            have KBC := Lib.hid (oc.keep KB9.out id)
            have OWNC := Lib.hid (ownsRow_only OWN9.out oc (fun _ _ => id))
            have hszc : w5.heap.size ≤ wc.heap.size := OC.out.size
            have hrow : Hid (∀ q, u6.ownBlock = some q → w5.heap.size ≤ q ∧ q < w9.heap.size) := fun q hq => OWN9.out.lt q hq
            have hs9 : w5.heap.size ≤ w9.heap.size := O9.out.size
            obtain ⟨k0, k1⟩ := two_cells KX.out
            clear oc oc' H9 O9 KB9 OWN9 c0 c1 f0 f1
            go_wp2_with (fail)
            (
              refine (contains_not u6 ((S.take j).map (·.1)) x1 _ (reads_of_owns OWNC.out).2 (by have := HMN.out; rw [← HX.out] at this; exact this) (by rw [List.length_map, List.length_take]; omega)).mono ?_
              rintro e wz ⟨rfl, hwz⟩
              rw [hwz]
              clear hwz wz
              obtain ⟨k0, k1⟩ := two_cells KX.out
              go_wp2_with (at_builtin; refine wpList_append_own _ rfl (.tmp 84) (.tmp 87) 48 rfl w5.heap.size 3 i0 (.int .i64 0) 1 8 Try.underlying48 hi0 hz0 hz1 hz2 rfl (by decide) _ j _ rfl (OWNC.out.alloc _) ⟨wc.heap.size, 0, none⟩ 1 1 [.int .i64 x1] rfl rfl (cell_one_new _ _ _) (by simp [Value.oneCell']) (by unfold maxLen; omega) (by omega) (by simp; omega) ?_; intro vd wd ownd hgrd _; have OWND := Lib.hid ownd; have od : Only (fun q => u6.ownBlock = some q) wc wd := ((Only.refl (fun q => u6.ownBlock = some q) wc).alloc _).grown hgrd (fun q hq => .inl hq); have kxd := od.keep KX.out (fun h => by have := hrow.out _ h; omega); have kbd := od.keep KBC.out (fun h => by have := hrow.out _ h; omega); obtain ⟨m0, m1⟩ := two_cells kxd; obtain ⟨r0, r1⟩ := two_cells kbd; have s0 : wd.frozen? ⟨w4.heap.size, 0, none⟩ = false := free_of_row kbd; have s1 : wd.frozen? ⟨w4.heap.size, 1, none⟩ = false := free_of_row kbd; have KBD := Lib.hid kbd; have OD := Lib.hid od; clear ownd hgrd od kxd kbd)
              have oE : Only (fun q => q = w4.heap.size) wd ((wd.setCell ⟨w4.heap.size, 0, none⟩ (.int .i64 x1)).setCell ⟨w4.heap.size, 1, none⟩ (.int .i64 x2)) := Only.setAt (Only.setAt (Only.refl (fun q => q = w4.heap.size) wd) 0 _) 1 _
              have hjS : j < S.length := by rw [← HN.out]; exact hjn
              have hse : ((S.take (j + 1)).map (·.1)).map (Value.int .i64) = ((S.take j).map (·.1)).map (Value.int .i64) ++ [.int .i64 x1] := by
                rw [List.take_succ_eq_append_getElem hjS, ← atE_get S j hjS, ← HX.out]; simp
              have hle : lastE S (j + 1) = (x1, x2) := by unfold lastE; rw [if_neg (by omega), Nat.add_sub_cancel, ← HX.out]
              have kf := hp_same (j := 1) (hp_same (j := 0) KBD.out (.int .i64 x1)) (.int .i64 x2)
              refine ⟨⟨j + 1, by go_num, by omega, (HC.out.only OD.out (fun h => by have := hrow.out _ h; omega) (fun h => by have := hrow.out _ h; omega) (fun h => by have := hrow.out _ h; omega)).only oE (fun h => by omega) (fun h => by omega) (fun h => by omega), ?_, ?_, ?_⟩, by simp [intOf]; omega⟩
              · rw [hse]; exact ownsRow_only OWND.out oE (fun q hq h => by omega)
              · rw [hle]; simpa using kf
              · exact (OC.out.trans OD.out (fun q hq h => by have := hrow.out _ h; omega)).trans oE (fun q hq h => .inr (.inr (.inr h))))
        · have hjn2 : j = n := by omega
          have hd : S.drop j = [] := by rw [hjn2, HN.out]; simp
          rw [hd] at H6
          clear hd hjn2
          go_wp2_with (fail)
          refine (h_pop hb lb mb [] (fun x hx => by cases hx) _ H6.out).mono ?_
          rintro e w7 ⟨rfl, h7, o7⟩
          have H7 : Hid (HRep w7 hb lb mb []) := h7
          have O7 : Hid (Only (fun _ => False) w w7) := (O5.out.trans O6.out (fun q hq h => by have := HB.out; omega)).trans o7 (fun q hq h => by have := HB.out; omega)
          clear h7 o7
          simp only [List.isEmpty_nil, Bool.not_true]
          go_wp2_with (fail)
          refine (h_len hb lb mb [] _ (H7.out.only ((Only.refl (fun _ => False) w7).alloc _) id id id)).mono ?_
          rintro e w8 ⟨rfl, rfl⟩
          go_wp2
          go_ret
          exact ⟨rfl, O7.out.alloc _⟩

end Go.Proofs.Ytnhiohgcoifniaa
