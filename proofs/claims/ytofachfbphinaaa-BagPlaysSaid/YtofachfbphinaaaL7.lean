/- The walk of the law BagPlays. -/
import Derived.Test.YtofachfbphinaaaOpen
namespace Go.Proofs.Ytofachfbphinaaa
open Go.RowKit Go.Gav Go.BigFrame

/-- A slice of acts (a kind and an item each), as it lies in memory. -/
def IsActs (w : World) (a : Option Addr) (len : Nat) (D : Nat → Int) (X : Nat → Int × Int) : Prop :=
  0 < len → ∃ b off, a = some ⟨b, off, none⟩ ∧ ∀ i, i < len → w.cell? ⟨b, off + i * 3, none⟩ = some (.int .u8 (D i)) ∧ w.cell? ⟨b, off + i * 3 + 1, none⟩ = some (.int .i64 (X i).1) ∧
    w.cell? ⟨b, off + i * 3 + 2, none⟩ = some (.int .i64 (X i).2) ∧ 0 ≤ D i ∧ D i ≤ 255

/-- What stands between the rounds: the bag, and the document's list. -/
structure Both (w wr : World) (bb : Nat) (v vm : Value) (xs : List (Int × Int)) : Prop where
  bag : BagM wr bb v xs
  row : wr.ownsRow 0 49 2 vm xs.length (flatM xs)
  apart : ∀ k, vm.ownBlock = some k → k ≠ bb ∧ v.ownBlock ≠ some k
  only : Only (fun _ => False) w wr
  new : w.heap.size ≤ bb ∧ ∀ k, v.ownBlock = some k → w.heap.size ≤ k

theorem Both.on {w wr W : World} {bb : Nat} {v vm : Value} {xs : List (Int × Int)} (h : Both w wr bb v vm xs) (ho : Only (fun _ => False) wr W) : Both w W bb v vm xs :=
  ⟨h.bag.only ho id (fun _ _ => id), row_only h.row ho (fun _ _ => id), h.apart, h.only.trans ho (fun _ _ h => h), h.new⟩

/-- A row that came later than the bag. -/
theorem Both.put {w wr W W2 : World} {bb : Nat} {v vm v' vm' : Value} {xs ys : List (Int × Int)} (h : Both w wr bb v vm xs) (ho : Only (fun _ => False) wr W) (hq : PutQM W W2 bb v v' ys) {W3 : World} (hr : W3.ownsRow W2.heap.size 49 2 vm' ys.length (flatM ys)) (ho3 : Only (fun _ => False) W2 W3) :
    Both w W3 bb v' vm' ys := by
  obtain ⟨hb, o2, hv⟩ := hq
  have s1 := h.only.size
  have s2 := ho.size
  have s3 := o2.size
  refine ⟨hb.only ho3 id (fun _ _ => id), row_base (Nat.zero_le _) hr, fun k hk => ?_, ?_, h.new.1, fun k hk => ?_⟩
  · have hk2 := (hr.lt k hk).1
    refine ⟨fun e => ?_, fun e => ?_⟩
    · have := lt_of_block hb.head
      omega
    · have := (hb.row.lt k e).2
      omega
  · refine ((h.only.trans ho (fun _ _ h => h)).trans o2 (fun j hj hs => ?_)).trans ho3 (fun _ _ h => h)
    rcases hs with hs | hs
    · have := h.new.1; omega
    · have := h.new.2 j hs; omega
  · rcases hv with hv | hv
    · rw [hv] at hk; exact h.new.2 k hk
    · have := hv k hk; omega

theorem Both.drop {w wr W W2 W3 : World} {bb : Nat} {v vm v' vm' : Value} {xs ys : List (Int × Int)} (h : Both w wr bb v vm xs) (ho : Only (fun _ => False) wr W) (hr : W2.ownsRow W.heap.size 49 2 vm' ys.length (flatM ys)) (ho2 : Only (fun _ => False) W W2) (hq : PutQM W2 W3 bb v v' ys) :
    Both w W3 bb v' vm' ys := by
  obtain ⟨hb, o3, hv⟩ := hq
  have s1 := h.only.size
  have s2 := ho.size
  have s3 := ho2.size
  have s4 := o3.size
  have hlb : bb < wr.heap.size := lt_of_block h.bag.head
  have hlv : ∀ k, v.ownBlock = some k → k < wr.heap.size := fun k hk => (h.bag.row.lt k hk).2
  refine ⟨hb, row_only (row_base (Nat.zero_le _) hr) o3 (fun k hk hs => ?_), fun k hk => ?_, ?_, h.new.1, fun k hk => ?_⟩
  · have hk2 := (hr.lt k hk).1
    rcases hs with hs | hs
    · omega
    · have := hlv k hs; omega
  · have hk2 := (hr.lt k hk).1
    have hk3 := (hr.lt k hk).2
    refine ⟨fun e => by omega, fun e => ?_⟩
    rcases hv with hv | hv
    · rw [hv] at e; have := hlv k e; omega
    · have := hv k e; omega
  · refine ((h.only.trans ho (fun _ _ h => h)).trans ho2 (fun _ _ h => h)).trans o3 (fun j hj hs => ?_)
    rcases hs with hs | hs
    · have := h.new.1; omega
    · have := h.new.2 j hs; omega
  · rcases hv with hv | hv
    · rw [hv] at hk; exact h.new.2 k hk
    · have := hv k hk; omega

theorem lenM_n (b : Nat) (v : Value) (xs : List (Int × Int)) (n : Nat) (w : World) (h : BagM w b v xs) (e : n = xs.length) : Calls Try.prog 34 #[.pointer (some ⟨b, 0, none⟩)] w fun e w' => e = .returned (.int .i64 n) ∧ w' = w := by
  subst e
  exact lenM b v xs w h

theorem two_alloc (w : World) (x : Int × Int) : ((w.alloc (Obj.cells #[Value.int .i64 x.1, .int .i64 x.2] 49)).alloc (Obj.cells #[Value.int .i64 x.1, .int .i64 x.2] 49)).heap[w.heap.size + 1]? = some (.cells (flatM [x]).toArray 49 (0, 0)) := by
  have := heap_alloc_new (w.alloc (Obj.cells #[Value.int .i64 x.1, .int .i64 x.2] 49)) (Obj.cells #[Value.int .i64 x.1, .int .i64 x.2] 49)
  rw [World.size_alloc] at this
  exact this

theorem two_alloc2 (w : World) (x : Int × Int) : ((w.alloc (Obj.cells #[Value.int .i64 x.1, .int .i64 x.2] 49)).alloc (Obj.cells #[Value.int .i64 x.1, .int .i64 x.2, .int .i64 x.1, .int .i64 x.2] 49)).heap[w.heap.size + 1]? = some (.cells (flatM [x, x]).toArray 49 (0, 0)) := by
  have := heap_alloc_new (w.alloc (Obj.cells #[Value.int .i64 x.1, .int .i64 x.2] 49)) (Obj.cells #[Value.int .i64 x.1, .int .i64 x.2, .int .i64 x.1, .int .i64 x.2] 49)
  rw [World.size_alloc] at this
  exact this

theorem new_pair {w : World} {b : Nat} {v : Value} {x : Int × Int} (h : BagM w b v ([x, x].foldl insBM [])) : BagM w b v [x, x] := by
  have e : [x, x].foldl insBM [] = [x, x] := by simp [insBM]
  rwa [e] at h

theorem sameM_yes (a b : Nat) (va vb : Value) (xs : List (Int × Int)) (w : World) (ha : BagM w a va xs) (hb : BagM w b vb xs) (hn : xs.length ≤ 1000) :
    Calls Try.prog 33 #[.pointer (some ⟨a, 0, none⟩), .pointer (some ⟨b, 0, none⟩)] w fun e w' => e = .returned (.bool true) ∧ Only (fun _ => False) w w' :=
  (sameM a b va vb xs xs w ha hb hn).mono (fun _ _ h => ⟨by rw [h.1, decide_eq_true rfl], h.2⟩)

theorem sameM_no (a b : Nat) (va vb : Value) (xs ys : List (Int × Int)) (w : World) (ha : BagM w a va xs) (hb : BagM w b vb ys) (hn : xs.length ≤ 1000) (hne : xs.length ≠ ys.length) :
    Calls Try.prog 33 #[.pointer (some ⟨a, 0, none⟩), .pointer (some ⟨b, 0, none⟩)] w fun e w' => e = .returned (.bool false) ∧ Only (fun _ => False) w w' :=
  (sameM a b va vb xs ys w ha hb hn).mono (fun _ _ h => ⟨by
    rw [h.1]
    have hd : decide (keysM xs = keysM ys) = false := by
      rw [decide_eq_false_iff_not]
      intro e
      have := congrArg List.length e
      simp [keysM] at this
      exact hne this
    rw [hd], h.2⟩)

theorem rcount_x (xs : List (Int × Int)) (x : Int × Int) (ao : Option Addr) (cap : Nat) (w : World) (hx : ReadsM w ao xs.length (fun i => xs.getD i (0, 0))) (hn : xs.length ≤ 1000) :
    Calls Try.prog 28 #[.slice ao xs.length cap, .int .i64 x.1] w fun e w' => e = .returned (.int .i64 (cntM xs x)) ∧ w' = w := rcount_at xs x.1 ao cap w hx hn

set_option maxRecDepth 100000 in
set_option maxHeartbeats 8000000 in
theorem plays_walk (a : Option Addr) (len cap : Nat) (D : Nat → Int) (X : Nat → Int × Int) (w : World) (hl : IsActs w a len D X) (h1 : len ≤ 200) :
    Calls Try.prog 7 #[.slice a len cap] w fun e w' => e = .returned (.bool true) ∧ Only (fun _ => False) w w' := by
  have HL := Lib.hid hl
  clear hl
  have hg1 : ¬ ((len : Int) > 200) := by omega
  go_enter Try.func7, Try.ntmps7
  go_wp2_with (fail)
  refine (awake_at _).mono ?_
  rintro _ w1 ⟨rfl, o1⟩
  have O1 := Lib.hid o1
  clear o1
  go_wp2_with (fail)
  refine (newM [] none 0 w1 (fun h => by simp at h) (by decide)).mono ?_
  rintro _ w2 ⟨v0, rfl, hb, o2, hv⟩
  have HB0 := Lib.hid (show Both w w2 w1.heap.size v0 (.slice none 0 0) [] from ⟨hb, World.ownsRow_nil _ _ _ _, fun k hk => (by cases hk), O1.out.trans o2 (fun _ _ h => h), O1.out.size, fun k hk => by have := hv k hk; have := O1.out.size; omega⟩)
  clear hb o2 hv O1
  obtain ⟨bb, hbb⟩ : ∃ bb, bb = w1.heap.size := ⟨_, rfl⟩
  rw [← hbb] at HB0 ⊢
  clear hbb
  go_wp2
  go_loopw [4, 5] (fun vm vi wr => ∃ (i : Nat) (v : Value) (xs : List (Int × Int)), vi = .int .i64 i ∧ i ≤ len ∧ xs.length ≤ i ∧ Hid (Both w wr bb v vm xs)) (fun _ vi _ => len - (intOf vi).toNat)
  case atStart => exact ⟨0, v0, [], rfl, Nat.zero_le _, Nat.le_refl _, HB0⟩
  case round =>
    clear HB0
    obtain ⟨i, v, xs, rfl, hil, hxl, HB⟩ := hrel
    by_cases hlt : i < len
    · obtain ⟨ab, off, rfl, hc⟩ := HL.out (by omega)
      obtain ⟨d0, x0, x1, dlo, dhi⟩ := hc i hlt
      obtain ⟨d, hd⟩ := Int.eq_ofNat_of_zero_le dlo
      obtain ⟨x, hx⟩ : ∃ x, x = X i := ⟨_, rfl⟩
      rw [← hx] at x0 x1
      rw [hd] at d0 dhi
      have e0' := HB.out.only.cell d0 id
      have e1 := HB.out.only.cell x0 id
      have e2 := HB.out.only.cell x1 id
      have hd255 : d ≤ 255 := by omega
      have HA := Lib.hid ((Only.refl (fun _ => False) wr).alloc (Obj.cells #[Value.int .i64 x.1, .int .i64 x.2] 49))
      have e0 := HA.out.cell e0' id
      obtain ⟨z0, z1⟩ := two_cells (heap_alloc_new wr (Obj.cells #[Value.int .i64 x.1, .int .i64 x.2] 49))
      have HZ := Lib.hid (And.intro z0 z1)
      obtain ⟨am, cm, rfl, hrm, _⟩ := readsM_row HB.out.row
      have HRM := Lib.hid hrm
      have hx200 : xs.length ≤ 199 := by omega
      clear hc d0 x0 x1 dlo dhi hd hx e0' hrm
      have h6 : d % 6 = 0 ∨ d % 6 = 1 ∨ d % 6 = 2 ∨ d % 6 = 3 ∨ d % 6 = 4 ∨ d % 6 = 5 := by omega
      rcases h6 with h6 | h6 | h6 | h6 | h6 | h6
      · go_wp2_with (fail)
        have HQ := Lib.hid (fun h => putM bb v xs [x] (some ⟨wr.heap.size + 1, 0, none⟩) 1 ((wr.alloc (Obj.cells #[Value.int .i64 x.1, .int .i64 x.2] 49)).alloc (Obj.cells #[Value.int .i64 x.1, .int .i64 x.2] 49)) (HB.out.bag.only (HA.out.alloc _) id (fun _ _ => id)) h (by simp; omega))
        refine (HQ.out ?_).mono ?_
        · exact argM_block (l := [x]) (two_alloc wr x) (fun h => by
            have h1 := lt_of_block HB.out.bag.head
            rcases h with h | h
            · omega
            · have := (HB.out.bag.row.lt _ h).2; omega)
        rintro _ w3 ⟨v3, rfl, hq⟩
        have HQ3 := Lib.hid hq
        have HS3 := Lib.hid (show Only (fun k => k = bb ∨ v.ownBlock = some k) (wr.alloc (Obj.cells #[Value.int .i64 x.1, .int .i64 x.2] 49)) w3 from ((Only.refl _ _).alloc _).trans hq.2.1 (fun _ _ h => h))
        have hnb : ¬ (wr.heap.size = bb ∨ v.ownBlock = some wr.heap.size) := by
          have h1 := lt_of_block HB.out.bag.head
          intro h
          rcases h with h | h
          · omega
          · have := (HB.out.bag.row.lt _ h).2; omega
        have y0 := HS3.out.cell HZ.out.1 hnb
        have y1 := HS3.out.cell HZ.out.2 hnb
        have HRM3 := Lib.hid (HRM.out.only (HA.out.mono (fun _ h => h.elim) |>.trans HS3.out (fun _ _ h => h)) (fun g hg hs => by
          have hap := HB.out.apart g (by rw [hg]; rfl)
          rcases hs with hs | hs
          · exact hap.1 hs
          · exact hap.2 hs))
        clear hq hnb HQ
        go_wp2_with (fail)
        refine (rput_at xs x am cm w3 HRM3.out (by omega)).mono ?_
        rintro _ w4 ⟨v4, rfl, hr4, o4⟩
        obtain ⟨ys, hys⟩ : ∃ ys, ys = insBM xs x := ⟨_, rfl⟩
        have hyl : ys.length ≤ i + 1 := by rw [hys, insBM_length]; omega
        rw [← insBM_length xs x, ← hys] at hr4
        have HB4 := Lib.hid (show Both w w4 bb v3 v4 ys from HB.out.put (HA.out.alloc _) (by have := HQ3.out; simp only [List.foldl_cons, List.foldl_nil] at this; rw [← hys] at this; exact this) hr4 o4)
        clear hr4 o4 hys HQ3 HS3 HRM3 y0 y1
        obtain ⟨am2, cm2, hvm2, hrm2, _⟩ := readsM_row HB4.out.row
        subst hvm2
        have HRM2 := Lib.hid hrm2
        clear hrm2
        go_wp2_with (fail)
        refine (lenM bb v3 ys w4 HB4.out.bag).mono ?_
        rintro _ _ ⟨rfl, rfl⟩
        go_wp2_with (fail)
        refine (list_at bb v3 ys _ HB4.out.bag (by omega)).mono ?_
        rintro _ wl ⟨vl, rfl, hl, ol⟩
        obtain ⟨al, cl, rfl, hrl, _⟩ := readsM_row (row_base (Nat.zero_le _) hl)
        go_wp2_with (fail)
        refine (rsame_same ys al am2 cl cm2 wl hrl (HRM2.out.only ol (fun _ _ => id)) (by omega)).mono ?_
        rintro _ wz ⟨rfl, oz⟩
        have HZB := Lib.hid (HB4.out.on (ol.trans oz (fun _ _ h => h)))
        clear hl ol oz hrl
        go_wp2_with (fail)
        go_roundw
        case rel => exact ⟨i + 1, v3, ys, by go_num, by omega, by omega, HZB⟩
        case measure => simp [intOf]; omega
      · go_wp2_with (fail)
        have HQ := Lib.hid (fun h => putM bb v xs [x] (some ⟨wr.heap.size + 1, 0, none⟩) 1 ((wr.alloc (Obj.cells #[Value.int .i64 x.1, .int .i64 x.2] 49)).alloc (Obj.cells #[Value.int .i64 x.1, .int .i64 x.2] 49)) (HB.out.bag.only (HA.out.alloc _) id (fun _ _ => id)) h (by simp; omega))
        refine (HQ.out ?_).mono ?_
        · exact argM_block (l := [x]) (two_alloc wr x) (fun h => by
            have h1 := lt_of_block HB.out.bag.head
            rcases h with h | h
            · omega
            · have := (HB.out.bag.row.lt _ h).2; omega)
        rintro _ w3 ⟨v3, rfl, hq⟩
        have HQ3 := Lib.hid hq
        have HS3 := Lib.hid (show Only (fun k => k = bb ∨ v.ownBlock = some k) (wr.alloc (Obj.cells #[Value.int .i64 x.1, .int .i64 x.2] 49)) w3 from ((Only.refl _ _).alloc _).trans hq.2.1 (fun _ _ h => h))
        have hnb : ¬ (wr.heap.size = bb ∨ v.ownBlock = some wr.heap.size) := by
          have h1 := lt_of_block HB.out.bag.head
          intro h
          rcases h with h | h
          · omega
          · have := (HB.out.bag.row.lt _ h).2; omega
        have y0 := HS3.out.cell HZ.out.1 hnb
        have y1 := HS3.out.cell HZ.out.2 hnb
        have HRM3 := Lib.hid (HRM.out.only (HA.out.mono (fun _ h => h.elim) |>.trans HS3.out (fun _ _ h => h)) (fun g hg hs => by
          have hap := HB.out.apart g (by rw [hg]; rfl)
          rcases hs with hs | hs
          · exact hap.1 hs
          · exact hap.2 hs))
        clear hq hnb HQ
        go_wp2_with (fail)
        refine (rput_at xs x am cm w3 HRM3.out (by omega)).mono ?_
        rintro _ w4 ⟨v4, rfl, hr4, o4⟩
        obtain ⟨ys, hys⟩ : ∃ ys, ys = insBM xs x := ⟨_, rfl⟩
        have hyl : ys.length ≤ i + 1 := by rw [hys, insBM_length]; omega
        rw [← insBM_length xs x, ← hys] at hr4
        have HB4 := Lib.hid (show Both w w4 bb v3 v4 ys from HB.out.put (HA.out.alloc _) (by have := HQ3.out; simp only [List.foldl_cons, List.foldl_nil] at this; rw [← hys] at this; exact this) hr4 o4)
        clear hr4 o4 hys HQ3 HS3 HRM3 y0 y1
        obtain ⟨am2, cm2, hvm2, hrm2, _⟩ := readsM_row HB4.out.row
        subst hvm2
        have HRM2 := Lib.hid hrm2
        clear hrm2
        go_wp2_with (fail)
        refine (lenM bb v3 ys w4 HB4.out.bag).mono ?_
        rintro _ _ ⟨rfl, rfl⟩
        go_wp2_with (fail)
        refine (list_at bb v3 ys _ HB4.out.bag (by omega)).mono ?_
        rintro _ wl ⟨vl, rfl, hl, ol⟩
        obtain ⟨al, cl, rfl, hrl, _⟩ := readsM_row (row_base (Nat.zero_le _) hl)
        go_wp2_with (fail)
        refine (rsame_same ys al am2 cl cm2 wl hrl (HRM2.out.only ol (fun _ _ => id)) (by omega)).mono ?_
        rintro _ wz ⟨rfl, oz⟩
        have HZB := Lib.hid (HB4.out.on (ol.trans oz (fun _ _ h => h)))
        clear hl ol oz hrl
        go_wp2_with (fail)
        go_roundw
        case rel => exact ⟨i + 1, v3, ys, by go_num, by omega, by omega, HZB⟩
        case measure => simp [intOf]; omega
      · go_wp2_with (fail)
        refine (rdrop_at xs x.1 am cm _ (HRM.out.only HA.out (fun _ _ => id)) (by omega)).mono ?_
        rintro _ w3 ⟨v3, rfl, hr3, o3⟩
        obtain ⟨dd, hdd⟩ : ∃ dd, dd = decide (cntM xs (x.1, 0) ≠ 0) := ⟨_, rfl⟩
        rw [← hdd]
        have hdd' : decide (cntM xs x ≠ 0) = dd := hdd.symm
        have HDD := Lib.hid hdd'
        clear hdd hdd'
        have y0 := o3.cell z0 id
        have y1 := o3.cell z1 id
        have HW3 := Lib.hid (HB.out.bag.only (HA.out.trans o3 (fun _ _ h => h)) id (fun _ _ => id))
        obtain ⟨ys, hys⟩ : ∃ ys, ys = dropBM xs x := ⟨_, rfl⟩
        have hyl : ys.length ≤ i + 1 := by have := (dropBM_sub xs x).length_le; rw [hys]; omega
        rw [dropM_key, ← hys] at hr3
        have HR3 := Lib.hid (And.intro hr3 o3)
        have HYS := Lib.hid hys
        clear hr3 o3 hys
        go_wp2_with (fail)
        refine (dropM bb v xs x w3 HW3.out (by omega)).mono ?_
        rw [HDD.out, ← HYS.out]
        rintro _ w4 ⟨v4, rfl, hq⟩
        have HB4 := Lib.hid (show Both w w4 bb v4 v3 ys from HB.out.drop HA.out HR3.out.1 HR3.out.2 hq)
        clear hq HR3 HW3 y0 y1
        obtain ⟨am2, cm2, hvm2, hrm2, _⟩ := readsM_row HB4.out.row
        subst hvm2
        have HRM2 := Lib.hid hrm2
        clear hrm2
        go_wp2_with (fail)
        refine (lenM bb v4 ys w4 HB4.out.bag).mono ?_
        rintro _ _ ⟨rfl, rfl⟩
        go_wp2_with (fail)
        refine (list_at bb v4 ys _ HB4.out.bag (by omega)).mono ?_
        rintro _ wl ⟨vl, rfl, hl, ol⟩
        obtain ⟨al, cl, rfl, hrl, _⟩ := readsM_row (row_base (Nat.zero_le _) hl)
        go_wp2_with (fail)
        refine (rsame_same ys al am2 cl cm2 wl hrl (HRM2.out.only ol (fun _ _ => id)) (by omega)).mono ?_
        rintro _ wz ⟨rfl, oz⟩
        have HZB := Lib.hid (HB4.out.on (ol.trans oz (fun _ _ h => h)))
        clear hl ol oz hrl
        go_wp2_with (fail)
        go_roundw
        case rel => exact ⟨i + 1, v4, ys, by go_num, by omega, by omega, HZB⟩
        case measure => simp [intOf]; omega
      · go_wp2_with (fail)
        go_region_held3 (fun w' => w'.cell? ⟨wr.heap.size, 0, none⟩ = some (.int .i64 x.1) ∧ w'.cell? ⟨wr.heap.size, 1, none⟩ = some (.int .i64 x.2)) (first | exact ⟨z0, z1⟩ | exact ⟨o3.cell z0 id, o3.cell z1 id⟩) (first | (go_at_call 27; refine (countM bb v xs x _ (HB.out.bag.only (HA.out.drewN 1) id (fun _ _ => id)) (by omega)).mono ?_; rintro _ w3 ⟨rfl, o3⟩) | (go_at_call 28; refine (rcount_x xs x am cm _ (HRM.out.only ((HA.out.drewN 1).trans o3 (fun _ _ h => h)) (fun _ _ => id)) (by omega)).mono ?_; rintro _ w4 ⟨rfl, e4⟩; subst e4))
        have hO3 := (HA.out.drewN 1).trans o3 (fun _ _ h => h)
        have HB3 := Lib.hid (HB.out.on hO3)
        have HRM3 := Lib.hid (HRM.out.only hO3 (fun _ _ => id))
        clear hO3 o3
        go_wp2_with (fail)
        refine (lenM bb v xs w4 HB3.out.bag).mono ?_
        rintro _ _ ⟨rfl, rfl⟩
        go_wp2_with (fail)
        refine (list_at bb v xs _ HB3.out.bag (by omega)).mono ?_
        rintro _ wl ⟨vl, rfl, hl, ol⟩
        obtain ⟨al, cl, rfl, hrl, _⟩ := readsM_row (row_base (Nat.zero_le _) hl)
        go_wp2_with (fail)
        refine (rsame_same xs al am cl cm wl hrl (HRM3.out.only ol (fun _ _ => id)) (by omega)).mono ?_
        rintro _ wz ⟨rfl, oz⟩
        have HZB := Lib.hid (HB3.out.on (ol.trans oz (fun _ _ h => h)))
        clear hl ol oz hrl
        go_wp2_with (fail)
        go_roundw
        case rel => exact ⟨i + 1, v, xs, by go_num, by omega, by omega, HZB⟩
        case measure => simp [intOf]; omega
      · obtain ⟨n, m⟩ := x
        dsimp only at e1 e2 z0 z1
        by_cases hio : 0 ≤ n ∧ n < (xs.length : Int)
        · have hin : (0 : Int) ≤ n ∧ n < (xs.length : Int) := hio
          obtain ⟨k, rfl⟩ := Int.eq_ofNat_of_zero_le hin.1
          have hk : k < xs.length := by omega
          have hk0 : ¬ ((k : Int) < 0) := by omega
          have hk1 : ((k : Int) < (xs.length : Int)) := hin.2
          obtain ⟨y, hy⟩ : ∃ y, y = xs.getD k (0, 0) := ⟨_, rfl⟩
          obtain ⟨gm, ham, hcm⟩ := HRM.out (by omega)
          subst ham
          have r0 : wr.cell? ⟨gm, k * 2, none⟩ = some (.int .i64 y.1) := by rw [hy]; exact (hcm k hk).1
          have r1 : wr.cell? ⟨gm, k * 2 + 1, none⟩ = some (.int .i64 y.2) := by rw [hy]; exact (hcm k hk).2
          have HAT := Lib.hid (fun W (hW : Only (fun _ => False) wr W) => hy ▸ atM bb v xs k W (HB.out.bag.only hW id (fun _ _ => id)) hk)
          have heqy : ∀ w, (binOp BinOp.eql 49 (.agg #[.int .i64 y.1, .int .i64 y.2]) (.agg #[.int .i64 y.1, .int .i64 y.2])).run Try.prog w = .ok (.bool true) w := by
            intro w
            go_simp
          clear hcm hin hio hy
          go_wp2_with (first | (go_at_call 29; refine (HAT.out _ HA.out).mono ?_; rintro _ w3 ⟨rfl, o3⟩; have y0 := hp_allocc (o3.cell z0 id) (Obj.cells #[Value.int .i64 y.1, .int .i64 y.2] 49); have y1 := hp_allocc (o3.cell z1 id) (Obj.cells #[Value.int .i64 y.1, .int .i64 y.2] 49); have t0 := (two_cells (heap_alloc_new w3 (Obj.cells #[Value.int .i64 y.1, .int .i64 y.2] 49))).1; have t1 := (two_cells (heap_alloc_new w3 (Obj.cells #[Value.int .i64 y.1, .int .i64 y.2] 49))).2; have q0 := hp_allocc (o3.cell (HA.out.cell r0 id) id) (Obj.cells #[Value.int .i64 y.1, .int .i64 y.2] 49); have q1 := hp_allocc (o3.cell (HA.out.cell r1 id) id) (Obj.cells #[Value.int .i64 y.1, .int .i64 y.2] 49)))
          go_region_held3 (fun w' => w'.cell? ⟨wr.heap.size, 0, none⟩ = some (.int .i64 k) ∧ w'.cell? ⟨wr.heap.size, 1, none⟩ = some (.int .i64 m) ∧ w'.cell? ⟨w3.heap.size, 0, none⟩ = some (.int .i64 y.1) ∧ w'.cell? ⟨w3.heap.size, 1, none⟩ = some (.int .i64 y.2) ∧ w'.cell? ⟨gm, k * 2, none⟩ = some (.int .i64 y.1) ∧ w'.cell? ⟨gm, k * 2 + 1, none⟩ = some (.int .i64 y.2)) (exact ⟨y0, y1, t0, t1, q0, q1⟩) (fail)
          have hO3 : Only (fun _ => False) wr ((w3.alloc (Obj.cells #[Value.int .i64 y.1, .int .i64 y.2] 49)).drewN 1) := ((HA.out.trans o3 (fun _ _ h => h)).alloc _).drewN 1
          have HB3 := Lib.hid (HB.out.on hO3)
          have HRM3 := Lib.hid (HRM.out.only hO3 (fun _ _ => id))
          clear hO3 o3 y0 y1 t0 t1 q0 q1
          go_wp2_with (fail)
          refine (lenM bb v xs _ HB3.out.bag).mono ?_
          rintro _ _ ⟨rfl, rfl⟩
          go_wp2_with (fail)
          refine (list_at bb v xs _ HB3.out.bag (by omega)).mono ?_
          rintro _ wl ⟨vl, rfl, hl, ol⟩
          obtain ⟨al, cl, rfl, hrl, _⟩ := readsM_row (row_base (Nat.zero_le _) hl)
          go_wp2_with (fail)
          refine (rsame_same xs al (some ⟨gm, 0, none⟩) cl cm wl hrl (HRM3.out.only ol (fun _ _ => id)) (by omega)).mono ?_
          rintro _ wz ⟨rfl, oz⟩
          have HZB := Lib.hid (HB3.out.on (ol.trans oz (fun _ _ h => h)))
          clear hl ol oz hrl
          go_wp2_with (fail)
          go_roundw
          case rel => exact ⟨i + 1, v, xs, by go_num, by omega, by omega, HZB⟩
          case measure => simp [intOf]; omega
        · by_cases hneg : n < 0
          · have HAT := Lib.hid (fun W (_ : Only (fun _ => False) wr W) => at_negM (some ⟨bb, 0, none⟩) n W hneg)
            have hn0 : ¬ (n ≥ 0) := by omega
            clear hio
            go_wp2_with (first | (go_at_call 29; refine (HAT.out _ HA.out).mono ?_; rintro _ w3 ⟨rfl, o3⟩; have y0 := hp_allocc (o3.cell z0 id) (Obj.cells #[Value.int .i64 0, .int .i64 0] 49); have y1 := hp_allocc (o3.cell z1 id) (Obj.cells #[Value.int .i64 0, .int .i64 0] 49); have t0 := (two_cells (heap_alloc_new w3 (Obj.cells #[Value.int .i64 0, .int .i64 0] 49))).1; have t1 := (two_cells (heap_alloc_new w3 (Obj.cells #[Value.int .i64 0, .int .i64 0] 49))).2))
            have hO3 : Only (fun _ => False) wr (w3.alloc (Obj.cells #[Value.int .i64 0, .int .i64 0] 49)) := (HA.out.trans o3 (fun _ _ h => h)).alloc _
            have HB3 := Lib.hid (HB.out.on hO3)
            have HRM3 := Lib.hid (HRM.out.only hO3 (fun _ _ => id))
            clear hO3 o3 y0 y1 t0 t1
            go_wp2_with (fail)
            refine (lenM bb v xs _ HB3.out.bag).mono ?_
            rintro _ _ ⟨rfl, rfl⟩
            go_wp2_with (fail)
            refine (list_at bb v xs _ HB3.out.bag (by omega)).mono ?_
            rintro _ wl ⟨vl, rfl, hl, ol⟩
            obtain ⟨al, cl, rfl, hrl, _⟩ := readsM_row (row_base (Nat.zero_le _) hl)
            go_wp2_with (fail)
            refine (rsame_same xs al am cl cm wl hrl (HRM3.out.only ol (fun _ _ => id)) (by omega)).mono ?_
            rintro _ wz ⟨rfl, oz⟩
            have HZB := Lib.hid (HB3.out.on (ol.trans oz (fun _ _ h => h)))
            clear hl ol oz hrl
            go_wp2_with (fail)
            go_roundw
            case rel => exact ⟨i + 1, v, xs, by go_num, by omega, by omega, HZB⟩
            case measure => simp [intOf]; omega
          · obtain ⟨k, rfl⟩ := Int.eq_ofNat_of_zero_le (show 0 ≤ n by omega)
            have hk : xs.length ≤ k := by omega
            have hk0 : ¬ ((k : Int) < 0) := by omega
            have hk1 : ¬ ((k : Int) < (xs.length : Int)) := by omega
            have HAT := Lib.hid (fun W (hW : Only (fun _ => False) wr W) => at_highM bb v xs k W (HB.out.bag.only hW id (fun _ _ => id)) hk)
            clear hio hneg
            go_wp2_with (first | (go_at_call 29; refine (HAT.out _ HA.out).mono ?_; rintro _ w3 ⟨rfl, o3⟩; have y0 := hp_allocc (o3.cell z0 id) (Obj.cells #[Value.int .i64 0, .int .i64 0] 49); have y1 := hp_allocc (o3.cell z1 id) (Obj.cells #[Value.int .i64 0, .int .i64 0] 49); have t0 := (two_cells (heap_alloc_new w3 (Obj.cells #[Value.int .i64 0, .int .i64 0] 49))).1; have t1 := (two_cells (heap_alloc_new w3 (Obj.cells #[Value.int .i64 0, .int .i64 0] 49))).2))
            have hO3 : Only (fun _ => False) wr (w3.alloc (Obj.cells #[Value.int .i64 0, .int .i64 0] 49)) := (HA.out.trans o3 (fun _ _ h => h)).alloc _
            have HB3 := Lib.hid (HB.out.on hO3)
            have HRM3 := Lib.hid (HRM.out.only hO3 (fun _ _ => id))
            clear hO3 o3 y0 y1 t0 t1
            go_wp2_with (fail)
            refine (lenM bb v xs _ HB3.out.bag).mono ?_
            rintro _ _ ⟨rfl, rfl⟩
            go_wp2_with (fail)
            refine (list_at bb v xs _ HB3.out.bag (by omega)).mono ?_
            rintro _ wl ⟨vl, rfl, hl, ol⟩
            obtain ⟨al, cl, rfl, hrl, _⟩ := readsM_row (row_base (Nat.zero_le _) hl)
            go_wp2_with (fail)
            refine (rsame_same xs al am cl cm wl hrl (HRM3.out.only ol (fun _ _ => id)) (by omega)).mono ?_
            rintro _ wz ⟨rfl, oz⟩
            have HZB := Lib.hid (HB3.out.on (ol.trans oz (fun _ _ h => h)))
            clear hl ol oz hrl
            go_wp2_with (fail)
            go_roundw
            case rel => exact ⟨i + 1, v, xs, by go_num, by omega, by omega, HZB⟩
            case measure => simp [intOf]; omega
      · obtain ⟨ys, hys⟩ : ∃ ys, ys = insBM xs x := ⟨_, rfl⟩
        obtain ⟨zs, hzs⟩ : ∃ zs, zs = insBM ys x := ⟨_, rfl⟩
        have hyl : ys.length = xs.length + 1 := by rw [hys, insBM_length]
        have hzl : zs.length = xs.length + 2 := by rw [hzs, insBM_length, hyl]
        have HYS := Lib.hid (And.intro hys hzs)
        have HLEN := Lib.hid (And.intro hyl hzl)
        clear hys hzs hyl hzl
        have HA2 := Lib.hid (HA.out.alloc (Obj.cells #[Value.int .i64 x.1, .int .i64 x.2, .int .i64 x.1, .int .i64 x.2] 49))
        have z2 := hp_allocc z0 (Obj.cells #[Value.int .i64 x.1, .int .i64 x.2, .int .i64 x.1, .int .i64 x.2] 49)
        have z3 := hp_allocc z1 (Obj.cells #[Value.int .i64 x.1, .int .i64 x.2, .int .i64 x.1, .int .i64 x.2] 49)
        go_wp2_with (fail)
        refine (newM [x, x] _ 2 _ (argM_block (two_alloc2 wr x) id) (by simp)).mono ?_
        rintro _ w3 ⟨vn, rfl, hbn, o3, hvn⟩
        have O3 := Lib.hid (HA2.out.trans o3 (fun _ _ h => h))
        have hbn2 : BagM w3 (wr.heap.size + 1 + 1) vn [x, x] := by
          have := new_pair hbn
          rwa [World.size_alloc, World.size_alloc] at this
        have HBN := Lib.hid hbn2
        clear hbn2
        have z4 := o3.cell z2 id
        have z5 := o3.cell z3 id
        clear hbn o3 hvn z2 z3
        go_wp2_with (fail)
        refine (mergeM bb (wr.heap.size + 1 + 1) v vn xs [x, x] w3 (HB.out.bag.only O3.out id (fun _ _ => id)) HBN.out (by simp; omega)).mono ?_
        rintro _ w4 ⟨vc, rfl, hbc, o4, hvc⟩
        have hbc' : BagM w4 w3.heap.size vc zs := by
          rw [HYS.out.2, HYS.out.1]
          exact hbc
        have HBC := Lib.hid hbc'
        have O4 := Lib.hid (O3.out.trans o4 (fun _ _ h => h))
        have k0 := o4.cell z4 id
        have k1 := o4.cell z5 id
        clear hbc hbc' o4 hvc z4 z5 HBN
        have HBB := Lib.hid (HB.out.bag.only O4.out id (fun _ _ => id))
        have HRM4 := Lib.hid (HRM.out.only O4.out (fun _ _ => id))
        go_wp2_with (fail)
        go_region_held3 (fun w' => w'.cell? ⟨wr.heap.size, 0, none⟩ = some (.int .i64 x.1) ∧ w'.cell? ⟨wr.heap.size, 1, none⟩ = some (.int .i64 x.2)) (first | exact ⟨k0, k1⟩ | exact ⟨k5, k5'⟩ | exact ⟨k6, k6'⟩ | exact ⟨k7, k7'⟩ | exact ⟨k8, k8'⟩ | exact ⟨k9, k9'⟩ | exact ⟨k10, k10'⟩) (first | (go_at_call 33; refine (sameM_yes bb bb v v xs _ (HBB.out.only ((Only.refl (fun _ => False) w4).drewN 1 |>.trans O9.out (fun _ _ h => h)) id (fun _ _ => id)) (HBB.out.only ((Only.refl (fun _ => False) w4).drewN 1 |>.trans O9.out (fun _ _ h => h)) id (fun _ _ => id)) (by omega)).mono ?_; rintro _ w10 ⟨rfl, o10⟩; have k10 := o10.cell k9 id; have k10' := o10.cell k9' id) | (go_at_call 33; refine (sameM_no bb w3.heap.size v vc xs zs _ (HBB.out.only ((Only.refl (fun _ => False) w4).drewN 1 |>.trans O8.out (fun _ _ h => h)) id (fun _ _ => id)) (HBC.out.only ((Only.refl (fun _ => False) w4).drewN 1 |>.trans O8.out (fun _ _ h => h)) id (fun _ _ => id)) (by omega) (by have := HLEN.out.2; omega)).mono ?_; rintro _ w9 ⟨rfl, o9⟩; have k9 := o9.cell k8 id; have k9' := o9.cell k8' id; have O9 := Lib.hid (O8.out.trans o9 (fun _ _ h => h)); clear o9) | (go_at_call 31; refine (rsame_same zs a5 a7 c5 c7 _ (hrm5.only o67 (fun _ _ => id)) hrm7 (by have := HLEN.out.2; omega)).mono ?_; rintro _ w8 ⟨rfl, o8⟩; have k8 := o8.cell k7 id; have k8' := o8.cell k7' id; have O8 := Lib.hid (O7.out.trans o8 (fun _ _ h => h)); clear o8) | (go_at_call 24; refine (rput_at ys x a6 c6 _ hrm6 (by have := HLEN.out.1; omega)).mono ?_; rintro _ w7 ⟨v7, rfl, hr7, o7⟩; rw [← insBM_length ys x, ← HYS.out.2] at hr7; obtain ⟨a7, c7, rfl, hrm7, _⟩ := readsM_row (row_base (Nat.zero_le _) hr7); have k7 := o7.cell k6 id; have k7' := o7.cell k6' id; have O7 := Lib.hid (O6.out.trans o7 (fun _ _ h => h)); have o67 := o6.trans o7 (fun _ _ h => h)) | (go_at_call 24; refine (rput_at xs x am cm _ (HRM4.out.only ((Only.refl (fun _ => False) w4).drewN 1 |>.trans o5 (fun _ _ h => h)) (fun _ _ => id)) (by omega)).mono ?_; rintro _ w6 ⟨v6, rfl, hr6, o6⟩; rw [← insBM_length xs x, ← HYS.out.1] at hr6; obtain ⟨a6, c6, rfl, hrm6, _⟩ := readsM_row (row_base (Nat.zero_le _) hr6); have k6 := o6.cell k5 id; have k6' := o6.cell k5' id; have O6 := Lib.hid (o5.trans o6 (fun _ _ h => h))) | (go_at_call 32; refine (list_at w3.heap.size vc zs _ (HBC.out.only ((Only.refl (fun _ => False) w4).drewN 1) id (fun _ _ => id)) (by have := HLEN.out.2; omega)).mono ?_; rintro _ w5 ⟨v5, rfl, hr5, o5⟩; obtain ⟨a5, c5, rfl, hrm5, _⟩ := readsM_row (row_base (Nat.zero_le _) hr5); have k5 := o5.cell k0 id; have k5' := o5.cell k1 id))
        have O10 := Lib.hid (O9.out.trans o10 (fun _ _ h => h))
        have HB3 := Lib.hid (HB.out.on ((O4.out.drewN 1).trans O10.out (fun _ _ h => h)))
        have HRM3 := Lib.hid (HRM.out.only ((O4.out.drewN 1).trans O10.out (fun _ _ h => h)) (fun _ _ => id))
        clear o10 k0 k1 k5 k5' k6 k6' k7 k7' k8 k8' k9 k9' k10 k10'
        go_wp2_with (fail)
        refine (lenM bb v xs _ HB3.out.bag).mono ?_
        rintro _ _ ⟨rfl, rfl⟩
        go_wp2_with (fail)
        refine (list_at bb v xs _ HB3.out.bag (by omega)).mono ?_
        rintro _ wl ⟨vl, rfl, hl, ol⟩
        obtain ⟨al, cl, rfl, hrl, _⟩ := readsM_row (row_base (Nat.zero_le _) hl)
        go_wp2_with (fail)
        refine (rsame_same xs al am cl cm wl hrl (HRM3.out.only ol (fun _ _ => id)) (by omega)).mono ?_
        rintro _ wz ⟨rfl, oz⟩
        have HZB := Lib.hid (HB3.out.on (ol.trans oz (fun _ _ h => h)))
        clear hl ol oz hrl
        go_wp2_with (fail)
        go_roundw
        case rel => exact ⟨i + 1, v, xs, by go_num, by omega, by omega, HZB⟩
        case measure => simp [intOf]; omega
    · obtain rfl : i = len := by omega
      go_wp2
      go_ret
      exact ⟨rfl, HB.out.only⟩

end Go.Proofs.Ytofachfbphinaaa

