/- The contract of the net's Len. -/
import Derived.Test.YtflcdbefakjcbaaN7
namespace Go.Proofs.Ytflcdbefakjcbaa
open Go.RowKit Go.Gav Go.BigFrame
variable {w w' : World} {S T : Nat → Prop} {xb n room mb : Nat} {f : Cont} {ps : List (En × Nat)} {rb : En → Nat} {own : Nat → Option En}

/-- How many stand on these links. -/
def tot (f : Cont) (l : List En) : Nat := (l.map fun x => (f x).length).sum
theorem tot_nil (f : Cont) : tot f [] = 0 := rfl
theorem tot_cons (f : Cont) (x : En) (l : List En) : tot f (x :: l) = (f x).length + tot f l := by simp [tot]
theorem tot_snoc (f : Cont) (l : List En) (x : En) : tot f (l ++ [x]) = tot f l + (f x).length := by simp [tot]
theorem tot_le (f : Cont) (m : Nat) : ∀ l : List En, (∀ x ∈ l, (f x).length ≤ m) → tot f l ≤ l.length * m
  | [], _ => by simp [tot]
  | x :: l, h => by
    have h1 := h x (by simp)
    have h2 := tot_le f m l (fun y hy => h y (by simp [hy]))
    rw [tot_cons, List.length_cons, Nat.add_mul]
    omega
theorem tot_filter (f : Cont) (p : En → Bool) : ∀ l : List En, (∀ x ∈ l, p x = false → f x = []) → tot f (l.filter p) = tot f l
  | [], _ => rfl
  | x :: l, h => by
    have ih := tot_filter f p l (fun y hy => h y (by simp [hy]))
    rw [tot_cons, List.filter_cons]
    cases hp : p x with
    | true => simp [tot_cons, ih]
    | false => simp [ih, h x (by simp) hp]

theorem NetAt.fit (h : NetAt w S xb n room f mb ps rb own) (x : En) : (f x).length ≤ room := by
  rcases h.mem_or x with ⟨q, hq⟩ | hq
  · exact (h.q _ hq).le.1
  · rw [h.off x hq]; simp
theorem NetAt.tot (h : NetAt w S xb n room f mb ps rb own) : tot f (keysOf n ps) = tot f (gridE n) := by
  refine tot_filter f _ _ (fun x _ hx => h.off x (fun p hp e => ?_))
  simp at hx
  exact hx p.2 (by rw [← e]; exact hp)
theorem keysOf_mem {x : En} (h : x ∈ keysOf n ps) : ∃ q, (x, q) ∈ ps := by
  unfold keysOf at h
  have h2 := (List.mem_filter.1 h).2
  simp at h2
  exact h2

set_option maxRecDepth 100000 in
theorem net_len (w : World) (h : Net w S xb n room f) :
    Calls Try.prog 28 #[.pointer (some ⟨xb, 0, none⟩)] w fun e w' => e = .returned (.int .i64 (tot f (gridE n))) ∧ Only (fun _ => False) w w' := by
  obtain ⟨mb, ps, rb, own, hh⟩ := h
  rw [← hh.tot]
  have hp := pairs_at w hh
  have HH := Lib.hid hh
  have hle := keysOf_le n ps hh.hn.2
  have HM := Lib.hid (fun x (hx : x ∈ keysOf n ps) => keysOf_mem hx)
  obtain ⟨K, hK⟩ : ∃ K, K = keysOf n ps := ⟨_, rfl⟩
  rw [← hK] at hp hle HM ⊢
  have HK := Lib.hid hK
  clear hh hK
  go_enter Try.func28, Try.ntmps28
  go_wp2_with (first | (go_at_call 40; refine hp.mono ?_; rintro e w1 ⟨v', rfl, hown, o1⟩; obtain ⟨ao, cap, rfl, hcells, hfresh⟩ := owns_cells hown) | fail)
  have H1 := Lib.hid (HH.out.only o1 (fun _ _ => id))
  have O1 := Lib.hid o1
  have HC := Lib.hid hcells
  have HF := Lib.hid hfresh
  clear hp hown hcells hfresh o1 HH
  go_loopw [3, 9] (fun vn vi wr => ∃ i s : Nat, vn = .int .i64 s ∧ vi = .int .i64 i ∧ i ≤ K.length ∧ Hid (s = tot f (K.take i)) ∧ Hid (Only (fun _ => False) w1 wr)) (fun _ vi _ => K.length - (intOf vi).toNat)
  case atStart => exact ⟨0, 0, rfl, rfl, Nat.zero_le _, rfl, Only.refl _ _⟩
  case round =>
    obtain ⟨i, s, rfl, rfl, hil, HS, HO⟩ := hrel
    by_cases hlt : i < K.length
    · obtain ⟨g, rfl, hcx⟩ := HC.out (by omega)
      obtain ⟨x, hxe⟩ : ∃ x, x = atE K i := ⟨_, rfl⟩
      have x0 : wr.cell? ⟨g, i * 2, none⟩ = some (.int .i64 x.1) := by rw [hxe]; exact HO.out.cell (hcx i hlt).1 id
      have x1 : wr.cell? ⟨g, i * 2 + 1, none⟩ = some (.int .i64 x.2) := by rw [hxe]; exact HO.out.cell (hcx i hlt).2 id
      rw [atE_get K i hlt] at hxe
      obtain ⟨q, hq⟩ := HM.out x (hxe ▸ List.getElem_mem hlt)
      have HX := Lib.hid hxe
      have HQ := Lib.hid hq
      have hbd : s + (f x).length ≤ 64 * 65536 := by
        have h1 : tot f (K.take (i + 1)) ≤ (K.take (i + 1)).length * room := tot_le f room _ (fun y _ => H1.out.fit y)
        have e : tot f (K.take (i + 1)) = s + (f x).length := by
          rw [List.take_succ_eq_append_getElem hlt, tot_snoc, ← HX.out, HS.out]
        have h2 : (K.take (i + 1)).length * room ≤ 64 * 65536 := Nat.mul_le_mul (by simp; omega) H1.out.hroom.2
        omega
      obtain ⟨x1v, x2v⟩ := x
      clear hcx hxe hq
      go_wp2_with (fail)
      have z := heap_alloc_new wr (Obj.cells #[Value.int IntKind.i64 x1v, Value.int IntKind.i64 x2v] 62)
      have o2 : Only (fun _ => False) wr (wr.alloc (Obj.cells #[Value.int IntKind.i64 x1v, Value.int IntKind.i64 x2v] 62)) := (Only.refl _ _).alloc _
      generalize wr.alloc (Obj.cells #[Value.int IntKind.i64 x1v, Value.int IntKind.i64 x2v] 62) = w2 at *
      obtain ⟨z0, z1⟩ := two_cells z
      have hh2 := H1.out.only (HO.out.trans o2 (fun _ _ h => h)) (fun _ _ => id)
      obtain ⟨d0, d1, d2⟩ := hh2.cells
      have O2 := Lib.hid (HO.out.trans o2 (fun _ _ h => h))
      have H2 := Lib.hid hh2
      clear z o2 hh2 d0 d1 x0 x1
      refine wp_region_mixed [0] [1, 2, 3, 4, 5] 6 [7, 8, 9] (by kernel_rfl) (by kernel_rfl) (fun _ _ _ _ h => h) ?_
      simp only [pick, consO, List.getElem?_toArray, List.getElem?_cons_succ, List.getElem?_cons_zero, movesOf, moveOf]
      conv => arg 6; simp [Act.put, Act.eval]
      iterate 5 (go_big_quiet_step (fail))
      refine wpQuiet_nil ?_
      rintro _ ⟨nq, rfl⟩
      have hh3 := H2.out.only ((Only.refl (fun _ => False) _).drewN nq) (fun _ _ => id)
      have hl := run_look hh3.map (x1v, x2v)
      rw [lookV_mem hh3.map.nd HQ.out] at hl
      simp only [keyV, ptrV] at hl
      have hqr : QRep (w2.drewN nq) q (rb (x1v, x2v)) room (f (x1v, x2v)) := hh3.q _ HQ.out
      have hqlen := q_len q _ room _ _ hqr
      obtain ⟨c, hc⟩ : ∃ c, c = (f (x1v, x2v)).length := ⟨_, rfl⟩
      rw [← hc] at hqlen hbd
      have HCL := Lib.hid hc
      clear hh3 hqr hc
      go_wp2_with (first | (go_at_call 15; refine hqlen.mono ?_; rintro e w3 ⟨rfl, rfl⟩) | fail)
      go_roundw
      case rel =>
        refine ⟨i + 1, s + c, by go_num, by go_num, by omega, ?_, O2.out.drewN nq⟩
        show s + c = _
        rw [List.take_succ_eq_append_getElem hlt, tot_snoc, ← HX.out, HS.out, HCL.out]
      case measure => simp [intOf]; omega
    · obtain rfl : i = K.length := by omega
      go_wp2
      go_ret
      refine ⟨?_, O1.out.trans HO.out (fun _ _ h => h)⟩
      have e := HS.out
      rw [List.take_length] at e
      rw [e]
      rfl

end Go.Proofs.Ytflcdbefakjcbaa
