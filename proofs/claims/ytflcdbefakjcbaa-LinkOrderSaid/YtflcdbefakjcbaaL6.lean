/- The walk of the law LinkOrder: it returns true. -/
import Derived.Test.YtflcdbefakjcbaaO6
import Derived.BigQuiet
import Derived.Test.YtflcdbefakjcbaaO4
import Derived.Test.YtflcdbefakjcbaaL1
namespace Go.Proofs.Ytflcdbefakjcbaa
open Go.RowKit Go.Gav Go.BigFrame

set_option maxRecDepth 100000 in
theorem lorder_big (n room : Int) (a : Option Addr) (len cap : Nat) (w : World) (h : 200 < len) :
    Calls Try.prog 9 #[.int .u8 n, .int .u8 room, .slice a len cap] w fun e w' => e = .returned (.bool true) ∧ Only (fun _ => False) w w' := by
  go_enter Try.func9, Try.ntmps9
  go_wp2_with (fail)
  refine (awake_net _).mono ?_
  rintro e w1 ⟨rfl, o1⟩
  have O1 := Lib.hid o1
  clear o1
  go_wp2_with (fail)
  refine (awake_net _).mono ?_
  rintro e w2 ⟨rfl, o2⟩
  have O2 := Lib.hid o2
  clear o2
  go_wp2
  go_ret
  exact ⟨rfl, O1.out.trans O2.out (fun _ _ h => h)⟩

theorem wrap_nat (k : Nat) (h : k < 18446744073709551616) : IntKind.u64.wrap (k : Int) = k := by
  have e : IntKind.u64.bits = 64 := rfl
  have e2 : IntKind.u64.signed = false := rfl
  simp [IntKind.wrap, e, e2]
  omega
theorem wrap_pos (x : Int) : 0 ≤ IntKind.u64.wrap x := by
  have e : IntKind.u64.bits = 64 := rfl
  have e2 : IntKind.u64.signed = false := rfl
  simp [IntKind.wrap, e, e2]
  omega
theorem rem_nat (x : Int) (k : Nat) (hk : 0 < k) : ∃ A : Nat, A < k ∧ (IntKind.u64.wrap x).tmod k = A := by
  have h := wrap_pos x
  obtain ⟨y, hy⟩ : ∃ y : Nat, IntKind.u64.wrap x = y := ⟨(IntKind.u64.wrap x).toNat, by omega⟩
  rw [hy]
  refine ⟨y % k, Nat.mod_lt _ hk, ?_⟩
  rw [Int.tmod_eq_emod_of_nonneg (by omega)]
  simp

/-- A table of 64 counts. -/
def arr (s : Nat → Nat) : List Int := (List.range 64).map fun j => (s j : Int)
theorem arr_len (s : Nat → Nat) : (arr s).length = 64 := by simp [arr]
theorem arr_get (s : Nat → Nat) (j : Nat) (h : j < 64) : (arr s).getD j 0 = (s j : Int) := by simp [arr, h]
theorem arr_set (s : Nat → Nat) (j m : Nat) : (arr s).set j (m : Int) = arr (fun i => if i = j then m else s i) := by
  apply List.ext_getElem?
  intro i
  by_cases hi : i < 64
  · rw [List.getElem?_set]
    by_cases h : j = i
    · subst h; simp [arr, hi]
    · have h2 : ¬ i = j := fun e => h e.symm
      simp [arr, hi, h, h2]
  · rw [List.getElem?_eq_none (by simp [arr]; omega), List.getElem?_eq_none (by simp [arr]; omega)]

/-- What holds between rounds. -/
structure Ord (w wr : World) (xb sb gb k rm i : Nat) (S : Nat → Prop) (f : Cont) (s g : Nat → Nat) : Prop where
  net : Net wr S xb k rm f
  rep : ∀ a b : Nat, a < k → b < k → f (a, b) = upFrom (g (a * 8 + b)) (s (a * 8 + b) - g (a * 8 + b)) ∧ (a = b → s (a * 8 + b) = 0)
  le : ∀ j, g j ≤ s j ∧ s j ≤ i
  st : wr.heap[sb]? = some (.cells (ints (arr s)) 67 (0, 0))
  gt : wr.heap[gb]? = some (.cells (ints (arr g)) 67 (0, 0))
  ne : sb ≠ gb ∧ ∀ q, S q → q ≠ sb ∧ q ≠ gb
  lo : w.heap.size ≤ sb ∧ w.heap.size ≤ gb ∧ ∀ q, S q → w.heap.size ≤ q
  only : Only (fun _ => False) w wr

/-- The links of the first a rows; the first b links of row a. -/
def gridA (k a : Nat) : List En := (List.range a).flatMap fun (a : Nat) => (List.range k).map fun (b : Nat) => (((a : Int), (b : Int)) : En)
def rowP (a b : Nat) : List En := (List.range b).map fun (b : Nat) => (((a : Int), (b : Int)) : En)
theorem grid_all (k : Nat) : gridA k k = gridE k := rfl
theorem gridA_succ (k a : Nat) : gridA k (a + 1) = gridA k a ++ rowP a k := by
  unfold gridA rowP
  rw [List.range_succ, List.flatMap_append]
  simp
theorem rowP_succ (a b : Nat) : rowP a (b + 1) = rowP a b ++ [((a : Int), (b : Int))] := by
  unfold rowP
  rw [List.range_succ, List.map_append]
  simp
theorem tot_append (f : Cont) (l m : List En) : tot f (l ++ m) = tot f l + tot f m := by simp [tot]
theorem gridA_len (k a : Nat) : (gridA k a).length = a * k := by
  induction a with
  | zero => simp [gridA]
  | succ a ih => rw [gridA_succ, List.length_append, ih, rowP]; simp [Nat.add_mul]

variable {w wr w2 w3 : World} {xb sb gb k rm i : Nat} {S S' : Nat → Prop} {f : Cont} {s g : Nat → Nat}

theorem Ord.keep (h : Ord w wr xb sb gb k rm i S f s g) (ho : Only (fun _ => False) wr w2) : Ord w w2 xb sb gb k rm i S f s g :=
  ⟨h.net.only ho (fun _ _ => id), h.rep, h.le, ho.keep h.st id, ho.keep h.gt id, h.ne, h.lo, h.only.trans ho (fun _ _ h => h)⟩
theorem Ord.up (h : Ord w wr xb sb gb k rm i S f s g) : Ord w wr xb sb gb k rm (i + 1) S f s g :=
  ⟨h.net, h.rep, fun j => ⟨(h.le j).1, by have := (h.le j).2; omega⟩, h.st, h.gt, h.ne, h.lo, h.only⟩
theorem Ord.lts (h : Ord w wr xb sb gb k rm i S f s g) : sb < wr.heap.size ∧ gb < wr.heap.size := ⟨lt_of_block h.st, lt_of_block h.gt⟩
/-- The net was turned. -/
theorem Ord.net' {f' : Cont} (h : Ord w wr xb sb gb k rm i S f s g) (hN : Net w2 S' xb k rm f') (hS : ∀ q, S' q → S q ∨ wr.heap.size ≤ q) (ho : Only S wr w2) (hf : ∀ a b : Nat, a < k → b < k → f' (a, b) = f (a, b)) : Ord w w2 xb sb gb k rm i S' f' s g := by
  have hl := h.lts
  have hw := h.only.size
  refine ⟨hN, fun a b ha hb => by rw [hf a b ha hb]; exact h.rep a b ha hb, h.le, ho.keep h.st (fun hh => (h.ne.2 _ hh).1 rfl), ho.keep h.gt (fun hh => (h.ne.2 _ hh).2 rfl), ⟨h.ne.1, fun q hq => ?_⟩, ⟨h.lo.1, h.lo.2.1, fun q hq => ?_⟩, h.only.trans ho (fun j hj hh => by have := h.lo.2.2 j hh; omega)⟩
  · rcases hS q hq with h1 | h1
    · exact h.ne.2 q h1
    · omega
  · rcases hS q hq with h1 | h1
    · exact h.lo.2.2 q h1
    · omega
/-- An item was sent, and is counted. -/
theorem Ord.sent {A B : Nat} (h : Ord w wr xb sb gb k rm i S f s g) (hk : k ≤ 8) (hA : A < k) (hB : B < k) (hAB : A ≠ B) (hN : Net w2 S' xb k rm (upd f (A, B) (f (A, B) ++ [(s (A * 8 + B) : Int)]))) (hS : ∀ q, S' q → S q ∨ wr.heap.size ≤ q) (ho : Only S wr w2) :
    Ord w (w2.setCell ⟨sb, A * 8 + B, none⟩ (.int .i64 ((s (A * 8 + B) : Int) + 1))) xb sb gb k rm (i + 1) S' (upd f (A, B) (f (A, B) ++ [(s (A * 8 + B) : Int)])) (fun j => if j = A * 8 + B then s (A * 8 + B) + 1 else s j) g := by
  have hl := h.lts
  have hw := h.only.size
  have hz := ho.size
  have hs' : ∀ q, S' q → q ≠ sb ∧ q ≠ gb := fun q hq => by
    rcases hS q hq with h1 | h1
    · exact h.ne.2 q h1
    · omega
  have hst := ho.keep h.st (fun hh => (h.ne.2 _ hh).1 rfl)
  have hgt := ho.keep h.gt (fun hh => (h.ne.2 _ hh).2 rfl)
  have oc : Only (fun q => q = sb) w2 (w2.setCell ⟨sb, A * 8 + B, none⟩ (.int .i64 ((s (A * 8 + B) : Int) + 1))) := Only.setAt (Only.refl _ _) _ _
  refine ⟨hN.only oc (fun q hq => (hs' q hq).1), fun a b ha hb => ?_, fun j => ?_, ?_, oc.keep hgt (fun e => h.ne.1 e.symm), ⟨h.ne.1, hs'⟩, ⟨h.lo.1, h.lo.2.1, fun q hq => ?_⟩, ?_⟩
  · have hr := h.rep a b ha hb
    by_cases e : a = A ∧ b = B
    · obtain ⟨rfl, rfl⟩ := e
      have hle := (h.le (a * 8 + b)).1
      simp only [upd, if_true]
      refine ⟨?_, fun e => absurd e hAB⟩
      rw [hr.1, show s (a * 8 + b) + 1 - g (a * 8 + b) = (s (a * 8 + b) - g (a * 8 + b)) + 1 by omega, ← upFrom_snoc, show g (a * 8 + b) + (s (a * 8 + b) - g (a * 8 + b)) = s (a * 8 + b) by omega]
    · have e1 : ¬ (((a : Int), (b : Int)) : En) = ((A : Int), (B : Int)) := fun h => e (by simp at h; omega)
      have e2 : ¬ a * 8 + b = A * 8 + B := by omega
      simp only [upd, e1, e2, if_false]
      exact hr
  · have h1 := h.le j
    by_cases e : j = A * 8 + B
    · subst e; simp; omega
    · simp [e]; omega
  · rw [hp_same hst, ← arr_set, ints_set]
    simp
  · rcases hS q hq with h1 | h1
    · exact h.lo.2.2 q h1
    · omega
  · exact (h.only.trans ho (fun j hj hh => by have := h.lo.2.2 j hh; omega)).trans oc (fun j hj hh => by have := h.lo.1; omega)
/-- An item was taken, and is counted. -/
theorem Ord.got {A B : Nat} (h : Ord w wr xb sb gb k rm i S f s g) (hk : k ≤ 8) (hA : A < k) (hB : B < k) (hlt : g (A * 8 + B) < s (A * 8 + B)) (hN : Net w2 S xb k rm (upd f (A, B) (f (A, B)).tail)) (ho : Only S wr w3) (ho2 : Only (fun _ => False) w3 w2) :
    Ord w (w2.setCell ⟨gb, A * 8 + B, none⟩ (.int .i64 ((g (A * 8 + B) : Int) + 1))) xb sb gb k rm (i + 1) S (upd f (A, B) (f (A, B)).tail) s (fun j => if j = A * 8 + B then g (A * 8 + B) + 1 else g j) := by
  have hl := h.lts
  have hw := h.only.size
  have hz := ho.size
  have hst := ho2.keep (ho.keep h.st (fun hh => (h.ne.2 _ hh).1 rfl)) id
  have hgt := ho2.keep (ho.keep h.gt (fun hh => (h.ne.2 _ hh).2 rfl)) id
  have oc : Only (fun q => q = gb) w2 (w2.setCell ⟨gb, A * 8 + B, none⟩ (.int .i64 ((g (A * 8 + B) : Int) + 1))) := Only.setAt (Only.refl _ _) _ _
  refine ⟨hN.only oc (fun q hq => (h.ne.2 q hq).2), fun a b ha hb => ?_, fun j => ?_, oc.keep hst h.ne.1, ?_, h.ne, h.lo, ?_⟩
  · have hr := h.rep a b ha hb
    by_cases e : a = A ∧ b = B
    · obtain ⟨rfl, rfl⟩ := e
      simp only [upd, if_true]
      refine ⟨?_, hr.2⟩
      rw [hr.1, show s (a * 8 + b) - g (a * 8 + b) = (s (a * 8 + b) - (g (a * 8 + b) + 1)) + 1 by omega, upFrom_cons, List.tail_cons]
    · have e1 : ¬ (((a : Int), (b : Int)) : En) = ((A : Int), (B : Int)) := fun h => e (by simp at h; omega)
      have e2 : ¬ a * 8 + b = A * 8 + B := by omega
      simp only [upd, e1, e2, if_false]
      exact hr
  · have h1 := h.le j
    by_cases e : j = A * 8 + B
    · subst e; simp; omega
    · simp [e]; omega
  · rw [hp_same hgt, ← arr_set, ints_set]
    simp
  · exact ((h.only.trans ho (fun j hj hh => by have := h.lo.2.2 j hh; omega)).trans ho2 (fun _ _ h => h)).trans oc (fun j hj hh => by have := h.lo.2.1; omega)

set_option maxRecDepth 100000 in
set_option maxHeartbeats 1000000 in
theorem lorder_walk (n room : Int) (a : Option Addr) (len cap : Nat) (D : Nat → Int) (X : Nat → Int × Int × Int) (w : World) (hn : 0 ≤ n ∧ n ≤ 255) (hr : 0 ≤ room ∧ room ≤ 255) (hl : IsLacts w a len D X) (hlen : len ≤ 200) :
    Calls Try.prog 9 #[.int .u8 n, .int .u8 room, .slice a len cap] w fun e w' => e = .returned (.bool true) ∧ Only (fun _ => False) w w' := by
  obtain ⟨k, hk⟩ : ∃ k : Nat, 2 + n % 7 = k := ⟨(2 + n % 7).toNat, by omega⟩
  obtain ⟨rm, hrm⟩ : ∃ rm : Nat, 1 + room = rm := ⟨(1 + room).toNat, by omega⟩
  have HL := Lib.hid hl
  clear hl
  go_enter Try.func9, Try.ntmps9
  go_wp2_with (fail)
  refine (awake_net _).mono ?_
  rintro e w1 ⟨rfl, o1⟩
  have O1 := Lib.hid o1
  clear o1
  go_wp2_with (fail)
  have HKR := Lib.hid (show (2 ≤ k ∧ k ≤ 8) ∧ 1 ≤ rm ∧ rm ≤ 65536 by omega)
  clear hk hrm hn hr
  refine (net_new k rm _ (by have := HKR.out; omega) (by have := HKR.out; omega)).mono ?_
  rintro e w2 ⟨S, xb, rfl, hnet, hS, o2⟩
  have O2 := Lib.hid (O1.out.trans o2 (fun _ _ h => h))
  have HS := Lib.hid (fun q hq => Nat.le_trans O1.out.size (hS q hq))
  have HN := Lib.hid hnet
  clear o2 hS hnet O1
  go_wp2
  change Code.wp _ _ _ _ ((w2.alloc (.cells (ints (arr fun _ => 0)) 67)).alloc (.cells (ints (arr fun _ => 0)) 67))
  have k1 : ((w2.alloc (.cells (ints (arr fun _ => 0)) 67)).alloc (.cells (ints (arr fun _ => 0)) 67)).heap[w2.heap.size]? = some (.cells (ints (arr fun _ => 0)) 67 (0, 0)) := hp_alloc (heap_alloc_new _ _) _
  have k2 : ((w2.alloc (.cells (ints (arr fun _ => 0)) 67)).alloc (.cells (ints (arr fun _ => 0)) 67)).heap[w2.heap.size + 1]? = some (.cells (ints (arr fun _ => 0)) 67 (0, 0)) := heap_alloc2_new _ _ _
  have o3 : Only (fun _ => False) w2 ((w2.alloc (.cells (ints (arr fun _ => 0)) 67)).alloc (.cells (ints (arr fun _ => 0)) 67)) := ((Only.refl _ _).alloc _).alloc _
  generalize (w2.alloc (.cells (ints (arr fun _ => 0)) 67)).alloc (.cells (ints (arr fun _ => 0)) 67) = w3 at *
  have hO : Ord w w3 xb w2.heap.size (w2.heap.size + 1) k rm 0 S (fun _ => []) (fun _ => 0) (fun _ => 0) :=
    ⟨HN.out.only o3 (fun _ _ => id), fun a b _ _ => ⟨rfl, fun _ => rfl⟩, fun _ => ⟨Nat.le_refl _, Nat.le_refl _⟩, k1, k2, ⟨by omega, fun q hq => by have := HN.out.lt q hq; omega⟩, ⟨O2.out.size, by have := O2.out.size; omega, HS.out⟩, O2.out.trans o3 (fun _ _ h => h)⟩
  have HO := Lib.hid hO
  clear hO k1 k2 o3 HN HS O2
  generalize w2.heap.size = sb at *
  generalize sb + 1 = gb at *
  go_loopw [12] (fun vi wr => ∃ i : Nat, vi = .int .i64 i ∧ i ≤ len ∧ Hid (∃ S f s g, Ord w wr xb sb gb k rm i S f s g)) (fun vi _ => len - (intOf vi).toNat)
  case atStart => exact ⟨0, rfl, Nat.zero_le _, S, _, _, _, HO.out⟩
  case round =>
    clear HO
    obtain ⟨i, rfl, hil, HH⟩ := hrel
    obtain ⟨S, f, s, g, hO⟩ := HH.out
    have HO := Lib.hid hO
    clear HH hO
    by_cases hlt : i < len
    · obtain ⟨bb, off, rfl, hc⟩ := HL.out (by omega)
      obtain ⟨d0, x0, x1, -, dlo, dhi, y0, y1, -⟩ := hc i hlt
      obtain ⟨xa, hxa⟩ : ∃ x, x = (X i).1 := ⟨_, rfl⟩
      obtain ⟨xb', hxb⟩ : ∃ x, x = (X i).2.1 := ⟨_, rfl⟩
      rw [← hxa] at x0 y0
      rw [← hxb] at x1 y1
      have e0 := HO.out.only.cell d0 id
      have e1 := HO.out.only.cell x0 id
      have e2 := HO.out.only.cell x1 id
      clear d0 x0 x1 hc hxa hxb
      obtain ⟨A, hA, htA⟩ := rem_nat xa k (by have := HKR.out; omega)
      obtain ⟨B, hB, htB⟩ := rem_nat xb' k (by have := HKR.out; omega)
      have hk8 := HKR.out.1
      have hku := wrap_nat k (by omega)
      have hk0 : ¬ (k : Int) = 0 := by omega
      go_wp2_with (fail)
      refine wp_region_quiet_lit (by kernel_rfl) (by kernel_rfl) ?_
      repeat (go_big_quiet_step (fail))
      refine wpQuiet_nil ?_
      rintro _ ⟨nq, rfl⟩
      have f0 : (wr.drewN nq).cell? ⟨bb, off + i * 4, none⟩ = some (.int .u8 (D i)) := e0
      have HO4 := Lib.hid (HO.out.keep ((Only.refl (fun _ => False) wr).drewN nq))
      clear e0 e1 e2 HO htA htB hku y0 y1
      generalize wr.drewN nq = w4 at *
      have hs1 := (HO4.out.le (A * 8 + B))
      obtain ⟨sv, hsv⟩ : ∃ x, x = s (A * 8 + B) := ⟨_, rfl⟩
      obtain ⟨gv, hgv⟩ : ∃ x, x = g (A * 8 + B) := ⟨_, rfl⟩
      have c1 : w4.cell? ⟨sb, A * 8 + B, none⟩ = some (.int .i64 sv) := by rw [cell_ints HO4.out.st (by rw [arr_len]; omega), arr_get _ _ (by omega), hsv]
      have c2 : w4.cell? ⟨gb, A * 8 + B, none⟩ = some (.int .i64 gv) := by rw [cell_ints HO4.out.gt (by rw [arr_len]; omega), arr_get _ _ (by omega), hgv]
      have hrep := HO4.out.rep A B hA hB
      rw [← hsv, ← hgv] at hs1 hrep
      have HSV := Lib.hid (And.intro hsv hgv)
      have HRP := Lib.hid hrep
      clear hsv hgv hrep
      by_cases hd : D i % 5 < 3
      · by_cases hab : A = B
        · have hsz : sv = 0 := HRP.out.2 hab
          subst hab
          go_wp2_with (fail)
          refine (send_bad _ _ _ _ HO4.out.net (by omega)).mono ?_
          rintro e w5 ⟨rfl, rfl⟩
          go_wp2
          go_roundw
          case rel => exact ⟨i + 1, by go_num, by omega, S, f, s, g, HO4.out.up⟩
          case measure => simp [intOf]; omega
        · by_cases hfull : rm ≤ (f (A, B)).length
          · have HF := Lib.hid hfull
            clear hfull
            go_wp2_with (fail)
            refine (send_full _ _ _ _ HO4.out.net (by omega) (by omega) (by omega) HF.out).mono ?_
            rintro e w5 ⟨rfl, ⟨S', n5, l5⟩, o5⟩
            have H5 := Lib.hid (HO4.out.up.net' n5 l5 o5 (fun _ _ _ _ => rfl))
            clear n5 l5 o5
            go_wp2
            go_roundw
            case rel => exact ⟨i + 1, by go_num, by omega, S', f, s, g, H5.out⟩
            case measure => simp [intOf]; omega
          · have HF := Lib.hid hfull
            clear hfull
            go_wp2_with (fail)
            refine (send_ok _ _ _ _ HO4.out.net (by omega) (by omega) (by omega) (by have := HF.out; omega)).mono ?_
            rintro e w5 ⟨rfl, ⟨S', n5, l5⟩, o5⟩
            have hst := o5.keep HO4.out.st (fun hh => (HO4.out.ne.2 _ hh).1 rfl)
            have hsb := HSV.out.1
            have d1 : w5.cell? ⟨sb, A * 8 + B, none⟩ = some (.int .i64 sv) := by rw [cell_ints hst (by rw [arr_len]; omega), arr_get _ _ (by omega), hsb]
            have d2 := fun j => free_of_row (j := j) hst
            have N5 := Lib.hid n5
            have L5 := Lib.hid l5
            have O5 := Lib.hid o5
            clear n5 l5 o5 hst hsb c1 c2
            go_wp2
            refine wp_region_mixed [] [0, 1, 2, 3, 4, 5, 6, 7] 8 [] (by kernel_rfl) (by kernel_rfl) (fun _ _ _ _ h => h) ?_
            simp only [pick, consO, List.getElem?_toArray, List.getElem?_cons_succ, List.getElem?_cons_zero, movesOf]
            iterate 8 (go_big_quiet_step (fail))
            refine wpQuiet_nil ?_
            rintro _ ⟨nq2, rfl⟩
            go_wp2
            go_roundw
            case rel =>
              have hsb := HSV.out.1
              have hn5 := N5.out
              rw [hsb] at hn5 ⊢
              have o6 : Only (fun _ => False) w5 (w5.drewN nq2) := (Only.refl _ _).drewN nq2
              exact ⟨i + 1, by go_num, by omega, S', _, _, _, HO4.out.sent hk8.2 hA hB (by omega) (hn5.only o6 (fun _ _ => id)) L5.out (O5.out.trans o6 (fun _ _ h => h.elim))⟩
            case measure => simp [intOf]; omega
      · by_cases hgs : gv < sv
        · have hab : ¬ (A : Int) = (B : Int) := fun e => by have := HRP.out.2 (by omega); omega
          have hf := HRP.out.1
          rw [show sv - gv = (sv - (gv + 1)) + 1 by omega, upFrom_cons] at hf
          have hv : headV (f (A, B)) = .tuple #[.int .i64 gv, .bool true] := by rw [hf]; rfl
          have HC := net_take A B w4 HO4.out.net
          rw [hv] at HC
          have hgs' : (gv : Int) < (sv : Int) := by omega
          clear hf hv
          go_wp2_with (fail)
          refine HC.mono ?_
          rintro e w5 ⟨rfl, n5, o5⟩
          have hst := o5.keep HO4.out.st (fun hh => (HO4.out.ne.2 _ hh).1 rfl)
          have hgt := o5.keep HO4.out.gt (fun hh => (HO4.out.ne.2 _ hh).2 rfl)
          have hsb := HSV.out.1
          have hgb := HSV.out.2
          have d1 : w5.cell? ⟨sb, A * 8 + B, none⟩ = some (.int .i64 sv) := by rw [cell_ints hst (by rw [arr_len]; omega), arr_get _ _ (by omega), hsb]
          have d2 : w5.cell? ⟨gb, A * 8 + B, none⟩ = some (.int .i64 gv) := by rw [cell_ints hgt (by rw [arr_len]; omega), arr_get _ _ (by omega), hgb]
          have d3 := fun j => free_of_row (j := j) hgt
          have N5 := Lib.hid n5
          have O5 := Lib.hid o5
          clear n5 o5 hst hgt hsb hgb c1 c2 HC
          go_wp2
          refine wp_region_quiet_lit (by kernel_rfl) (by kernel_rfl) ?_
          repeat (go_big_quiet_step (fail))
          refine wpQuiet_nil ?_
          rintro _ ⟨nq2, rfl⟩
          go_wp2
          refine wp_region_mixed [] [0, 1, 2, 3, 4, 5, 6, 7] 8 [] (by kernel_rfl) (by kernel_rfl) (fun _ _ _ _ h => h) ?_
          simp only [pick, consO, List.getElem?_toArray, List.getElem?_cons_succ, List.getElem?_cons_zero, movesOf]
          iterate 8 (go_big_quiet_step (fail))
          refine wpQuiet_nil ?_
          rintro _ ⟨nq3, rfl⟩
          rw [World.drewN_drewN]
          generalize nq2 + nq3 = nq4
          go_wp2
          go_roundw
          case rel =>
            have hgb := HSV.out.2
            rw [hgb]
            have o6 : Only (fun _ => False) w5 (w5.drewN nq4) := (Only.refl _ _).drewN nq4
            exact ⟨i + 1, by go_num, by omega, S, _, _, _, HO4.out.got hk8.2 hA hB (by rw [← HSV.out.1, ← HSV.out.2]; exact hgs) (N5.out.only o6 (fun _ _ => id)) O5.out o6⟩
          case measure => simp [intOf]; omega
        · have hf := HRP.out.1
          rw [show sv - gv = 0 by omega, upFrom_zero] at hf
          have hv : headV (f (A, B)) = .tuple #[.int .i64 0, .bool false] := by rw [hf]; rfl
          have HC := net_take A B w4 HO4.out.net
          rw [hv] at HC
          have hgs' : ¬ (gv : Int) < (sv : Int) := by omega
          have HF := Lib.hid hf
          clear hf hv
          go_wp2_with (fail)
          refine HC.mono ?_
          rintro e w5 ⟨rfl, n5, o5⟩
          have hst := o5.keep HO4.out.st (fun hh => (HO4.out.ne.2 _ hh).1 rfl)
          have hgt := o5.keep HO4.out.gt (fun hh => (HO4.out.ne.2 _ hh).2 rfl)
          have hsb := HSV.out.1
          have hgb := HSV.out.2
          have d1 : w5.cell? ⟨sb, A * 8 + B, none⟩ = some (.int .i64 sv) := by rw [cell_ints hst (by rw [arr_len]; omega), arr_get _ _ (by omega), hsb]
          have d2 : w5.cell? ⟨gb, A * 8 + B, none⟩ = some (.int .i64 gv) := by rw [cell_ints hgt (by rw [arr_len]; omega), arr_get _ _ (by omega), hgb]
          have H5 := Lib.hid (HO4.out.up.net' n5 (fun _ h => .inl h) o5 (fun a b ha hb => by
            unfold upd
            split
            · rename_i e
              rw [e, HF.out]; rfl
            · rfl))
          clear n5 o5 hst hgt hsb hgb c1 c2 HC
          go_wp2
          refine wp_region_quiet_lit (by kernel_rfl) (by kernel_rfl) ?_
          repeat (go_big_quiet_step (fail))
          refine wpQuiet_nil ?_
          rintro _ ⟨nq2, rfl⟩
          go_wp2
          go_roundw
          case rel => exact ⟨i + 1, by go_num, by omega, S, _, _, _, H5.out.keep ((Only.refl _ _).drewN nq2)⟩
          case measure => simp [intOf]; omega
    · obtain rfl : i = len := by omega
      clear HL
      have HO2 := Lib.hid HO.out.only
      go_wp2_with (fail)
      go_loopw [17, 18] (fun vl va wq => ∃ a : Nat, va = .int .i64 a ∧ a ≤ k ∧ vl = .int .i64 (tot f (gridA k a)) ∧ Hid (Ord w wq xb sb gb k rm i S f s g)) (fun _ va _ => k - (intOf va).toNat)
      case atStart => exact ⟨0, rfl, Nat.zero_le _, rfl, HO.out⟩
      case round =>
        clear HO
        obtain ⟨ra, rfl, hra, rfl, HO⟩ := hrel
        by_cases hlt : ra < k
        · go_wp2_with (fail)
          go_loopw [17, 19] (fun vl vb wq => ∃ b : Nat, vb = .int .i64 b ∧ b ≤ k ∧ vl = .int .i64 (tot f (gridA k ra ++ rowP ra b)) ∧ Hid (Ord w wq xb sb gb k rm i S f s g)) (fun _ vb _ => k - (intOf vb).toNat)
          case atStart => exact ⟨0, rfl, Nat.zero_le _, by simp [rowP], HO.out⟩
          case round =>
            clear HO
            obtain ⟨cb, rfl, hcb, rfl, HO⟩ := hrel
            by_cases hlt2 : cb < k
            · have hr := (HO.out.rep ra cb hlt hlt2).1
              have hle := HO.out.le (ra * 8 + cb)
              obtain ⟨sv, hsv⟩ : ∃ x, x = s (ra * 8 + cb) := ⟨_, rfl⟩
              obtain ⟨gv, hgv⟩ : ∃ x, x = g (ra * 8 + cb) := ⟨_, rfl⟩
              have hk8 := HKR.out.1
              rw [← hsv, ← hgv] at hr hle
              have c1 : wr.cell? ⟨sb, ra * 8 + cb, none⟩ = some (.int .i64 sv) := by rw [cell_ints HO.out.st (by rw [arr_len]; omega), arr_get _ _ (by omega), hsv]
              have c2 : wr.cell? ⟨gb, ra * 8 + cb, none⟩ = some (.int .i64 gv) := by rw [cell_ints HO.out.gt (by rw [arr_len]; omega), arr_get _ _ (by omega), hgv]
              have hlen2 : tot f (gridA k ra ++ rowP ra (cb + 1)) = tot f (gridA k ra ++ rowP ra cb) + (sv - gv) := by
                rw [rowP_succ, ← List.append_assoc, tot_snoc, hr, upFrom_length]
              have hbd : tot f (gridA k ra ++ rowP ra cb) ≤ 4194304 := by
                obtain ⟨mb, ps, rb, own, hh⟩ := HO.out.net
                have h1 := tot_le f rm (gridA k ra ++ rowP ra cb) (fun y _ => hh.fit y)
                have h2 : (gridA k ra ++ rowP ra cb).length ≤ 64 := by
                  rw [List.length_append, gridA_len, rowP, List.length_map, List.length_range]
                  have h3 : (ra + 1) * k ≤ 8 * 8 := Nat.mul_le_mul (by omega) hk8.2
                  rw [Nat.add_mul] at h3
                  omega
                have h4 : (gridA k ra ++ rowP ra cb).length * rm ≤ 64 * 65536 := Nat.mul_le_mul h2 HKR.out.2.2
                omega
              have HL2 := Lib.hid hlen2
              obtain ⟨tl, htl⟩ : ∃ x, x = tot f (gridA k ra ++ rowP ra cb) := ⟨_, rfl⟩
              rw [← htl] at hbd HL2 ⊢
              clear hr hsv hgv hlen2 htl
              go_wp2_with (fail)
              refine wp_region_quiet_lit (by kernel_rfl) (by kernel_rfl) ?_
              repeat (go_big_quiet_step (fail))
              refine wpQuiet_nil ?_
              rintro _ ⟨nq2, rfl⟩
              go_wp2
              go_roundw
              case rel => exact ⟨cb + 1, by go_num, by omega, by rw [HL2.out]; congr 1; omega, HO.out.keep ((Only.refl _ _).drewN nq2)⟩
              case measure => simp [intOf]; omega
            · have hk8 := HKR.out.1
              obtain rfl : cb = k := by omega
              go_wp2
              go_roundw
              case rel => exact ⟨ra + 1, by go_num, by omega, by rw [gridA_succ], HO.out⟩
              case measure => simp [intOf]; omega
        · obtain rfl : ra = k := by omega
          rw [grid_all]
          have HC := net_len _ HO.out.net
          go_wp2_with (fail)
          refine HC.mono ?_
          rintro e w9 ⟨rfl, o9⟩
          have O9 := Lib.hid (HO.out.only.trans o9 (fun _ _ h => h))
          clear o9 HC HO HO2
          go_wp2
          go_ret
          exact ⟨by simp, O9.out⟩

end Go.Proofs.Ytflcdbefakjcbaa
