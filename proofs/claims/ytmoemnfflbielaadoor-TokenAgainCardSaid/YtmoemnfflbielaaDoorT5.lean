/- The contract of the scanner's iterator. -/
import Derived.Test.YtmoemnfflbielaaDoorT4
import Derived.Test.YtmoemnfflbielaaDoorRng2
import Derived.OwnWalkIn
import Derived.TacticsInMore
import Derived.LoopNIn
import Derived.LoopIn
import Derived.RangeFuncBox
import Derived.Maps.AppendAt
import Derived.Shelf.RegionOpen
import Derived.WalkSpells
import Derived.Deep.Cut
namespace Go.Proofs.YtmoemnfflbielaaDoor
open Go.RowKit Go.Gav Go.BigFrame Go.Shelf
attribute [local go_sem] Oper.semAt_some

/-- What is handed out from a word's place on. -/
def itemsF (s : ByteArray) : Nat → Nat → List (Tok × Nat)
  | 0, _ => []
  | f + 1, k =>
    if (nextR s k).2.2 ≠ 0 then [(⟨0, ByteArray.empty, 0, k⟩, (nextR s k).2.2)]
    else if (nextR s k).1.kind = 4 then [((nextR s k).1, 0)]
    else ((nextR s k).1, 0) :: itemsF s f (gapTo s (k + (nextR s k).2.1))

/-- What is handed out of a text. -/
def items (s : ByteArray) : List (Tok × Nat) := if s.size > 16384 then [(⟨0, ByteArray.empty, 0, 0⟩, 9)] else itemsF s (s.size + 1) (gapTo s 0)

theorem numR_ok {s : ByteArray} {k : Nat} (hk : k < s.size) (hd : isDig (byt s k) = true) (h : (numR s k).2.2 = 0) : 1 ≤ (numR s k).2.1 ∧ k + (numR s k).2.1 ≤ s.size := by
  have h1 := run_ge s isDig (k + 1)
  rw [run_step hk hd] at h1
  have h2 := run_le (p := isDig) (Nat.le_of_lt hk)
  unfold numR at *
  split
  · rename_i h3; rw [if_pos h3] at h; cases h
  · rename_i h3
    rw [if_neg h3] at h
    split
    · rename_i h4; rw [if_pos h4] at h; cases h
    · simp only; omega

theorem nameR_ok {s : ByteArray} {k : Nat} (h : (nameR s k).2 = 0) : k < s.size ∧ isLet (byt s k) = true ∧ run s isWord k ≤ k + 16 ∧ (nameR s k).1 = s.extract k (run s isWord k) ∧ (nameR s k).1.size = run s isWord k - k ∧ k < run s isWord k ∧ run s isWord k ≤ s.size := by
  unfold nameR at *
  split
  · rename_i h1
    rw [if_pos h1] at h
    have h2 := run_ge s isWord (k + 1)
    rw [run_step h1.1 (by simp [isWord, h1.2])] at h2
    have h3 := run_le (p := isWord) (Nat.le_of_lt h1.1)
    split
    · rename_i h4; rw [if_pos h4] at h; cases h
    · refine ⟨h1.1, h1.2, by omega, rfl, ?_, by omega, h3⟩
      simp only [ByteArray.size_extract]; omega
  · rename_i h1; rw [if_neg h1] at h; cases h

theorem hasPrefix_le {l m : List UInt8} (h : Lib.hasPrefix l m = true) : m <+: l := by
  have := Lib.hasPrefix_of_take l m
  rw [h] at this
  simp only [Bool.and_eq_true, decide_eq_true_eq, beq_iff_eq] at this
  exact List.prefix_iff_eq_take.2 this.2.symm

theorem markAt_some {l m : List UInt8} (h : markAt l = some m) : m ∈ marksL ∧ m <+: l ∧ 1 ≤ m.length := by
  have h1 := List.mem_of_find?_eq_some h
  have h2 := List.find?_some h
  refine ⟨h1, hasPrefix_le h2, ?_⟩
  have : ∀ x ∈ marksL, 1 ≤ x.length := by decide
  exact this m h1

/-- A word that is no end is of one byte at least, and within the text. -/
theorem nextR_ok {s : ByteArray} {k : Nat} (hk : k ≤ s.size) (he : (nextR s k).2.2 = 0) (h4 : (nextR s k).1.kind ≠ 4) : k < s.size ∧ 1 ≤ (nextR s k).2.1 ∧ k + (nextR s k).2.1 ≤ s.size := by
  unfold nextR at *
  split
  · rename_i h0; rw [if_pos h0] at h4; exact absurd rfl h4
  · rename_i h0
    rw [if_neg h0] at he h4
    have hlt : k < s.size := by omega
    refine ⟨hlt, ?_⟩
    split
    · rename_i h1
      rw [if_pos h1] at he
      have := nameR_ok he
      simp only
      omega
    · rename_i h1
      rw [if_neg h1] at he
      split
      · rename_i h2
        rw [if_pos h2] at he
        exact numR_ok hlt h2 he
      · rename_i h2
        rw [if_neg h2] at he
        split
        · rename_i h3
          rw [if_pos h3] at he
          have := nameR_ok he
          simp only
          omega
        · rename_i h3
          rw [if_neg h3] at he
          cases hm : markAt ((bys s).drop k) with
          | none => rw [hm] at he; cases he
          | some m =>
            obtain ⟨_, hp, h1⟩ := markAt_some hm
            have := hp.length_le
            rw [List.length_drop, bys_length] at this
            simp only [markR]
            omega

/-- What a round is handed. -/
def encI (x : Tok × Nat) : Array Value := #[.agg (tokC x.1), .int .i64 x.2]

theorem MarksAt.kept {T : Nat → Prop} {w w' : World} (h : MarksAt w) (hk : KeptT T w w') (h0 : T 0) : MarksAt w' := fun j v hj => (World.cell?_of_block (hk 0 h0)).trans (h j v hj)

theorem cell_keptT {T : Nat → Prop} {w w' : World} {p : Addr} {v : Value} (h : w.cell? p = some v) (hk : KeptT T w w') (h0 : T p.block) : w'.cell? p = some v := (World.cell?_of_block (hk _ h0)).trans h

theorem drop_at {α : Type} {xs : List α} {i : Nat} {x : α} {r : List α} (h : xs.drop i = x :: r) : ∃ hi : i < xs.length, xs[i] = x ∧ xs.drop (i + 1) = r := by
  have hi : i < xs.length := by
    rcases Nat.lt_or_ge i xs.length with h1 | h1
    · exact h1
    · rw [List.drop_eq_nil_of_le h1] at h; cases h
  refine ⟨hi, ?_⟩
  rw [List.drop_eq_getElem_cons hi] at h
  cases h
  exact ⟨rfl, rfl⟩

set_option maxRecDepth 100000 in
set_option maxHeartbeats 1000000 in
theorem all_iter (bx : Nat) (s : ByteArray) (hs : s.size ≤ 4000000000000000000) (w : World) (hbx : w.cell? ⟨bx, 0, none⟩ = some (.string s)) (hm : MarksAt w) :
    IterS Tryd.prog 17 #[.pointer (some ⟨bx, 0, none⟩)] encI (items s) w (fun k => k = bx ∨ k = 0) := by
  intro l W hW R H
  have hc := hW.cell hbx id
  have HM := Lib.hid (hm.only hW id)
  have HH := Lib.hid H
  clear hbx hW hm w H
  show Calls Tryd.prog 17 #[.func (.yield l) #[] #[], .pointer (some ⟨bx, 0, none⟩)] W _
  obtain ⟨xs, hxs⟩ : ∃ xs, xs = items s := ⟨_, rfl⟩
  rw [← hxs] at HH
  unfold items at hxs
  by_cases hbig : s.size > 16384
  · rw [if_pos hbig] at hxs
    subst hxs
    obtain ⟨J, Jx, hJ0, hJs, hJxs, hY, hJd, hJxd⟩ := HH.out W (Only.refl _ _)
    obtain ⟨fn, tmps, assign, body, hy, hR⟩ := hY 0 (by simp) W W hJ0 (Only.refl _ _)
    change Sem.run Tryd.prog (Instr.yield l #[.agg #[.int .i64 0, .string { data := #[] }, .int .i64 0, .int .i64 0], .int .i64 9]) W = _ at hy
    go_enter Tryd.func17, Tryd.ntmps17
    go_upto_region 1 with fail
    refine (wpIn_wide (n := 0)).1 ?_
    gi_wp2
    refine ⟨rfl, hR.mono ?_⟩
    rintro e W3 (⟨rfl, hk, hj3⟩ | ⟨rfl, hk, hx3⟩)
    · have HK := Lib.hid (hJd _ hj3)
      clear hk hj3 hy hR hY hJ0 hJs hJxs hJd hJxd
      gi_wp2
      go_wp2
      exact bodyPost_ret (results_none rfl _ _ _) rfl ⟨⟨_, rfl⟩, HK.out⟩
    · have HK := Lib.hid (hJxd _ hx3)
      clear hk hx3 hy hR hY hJ0 hJs hJxs hJd hJxd
      gi_wp2
      go_wp2
      exact bodyPost_ret (results_none rfl _ _ _) rfl ⟨⟨_, rfl⟩, HK.out⟩
  · rw [if_neg hbig] at hxs
    have HXS := Lib.hid hxs
    have HG0 : Hid (∀ w, Calls Tryd.prog 18 #[.string s, .int .i64 0] w fun e w' => e = .returned (.int .i64 (gapTo s 0)) ∧ w' = w) := fun w => gap_at s hs 0 (Nat.zero_le _) w
    have hk0 := gap_le s 0
    obtain ⟨k0, hk00⟩ : ∃ k0, k0 = gapTo s 0 := ⟨_, rfl⟩
    rw [← hk00] at HG0 hk0 HXS
    obtain ⟨J, Jx, hJ0, hJs, hJxs, hY, hJd, hJxd⟩ := HH.out W (Only.refl _ _)
    have HJ0 := Lib.hid hJ0
    have HJs := Lib.hid hJs
    have HJxs := Lib.hid hJxs
    have HY := Lib.hid hY
    have HJd := Lib.hid hJd
    have HJxd := Lib.hid hJxd
    clear hJ0 hJs hJxs hY hJd hJxd HH hxs hk00
    go_enter Tryd.func17, Tryd.ntmps17
    go_wp2_with (fail)
    refine (HG0.out _).mono ?_
    rintro e w1 ⟨rfl, rfl⟩
    go_wp2_with (fail)
    go_loopw [3] (fun vi wr => ∃ i k f : Nat, vi = .int .i64 k ∧ k ≤ s.size ∧ s.size < f + k ∧ xs.drop i = itemsF s f k ∧ J i wr ∧ wr.cell? ⟨bx, 0, none⟩ = some (.string s) ∧ MarksAt wr) (fun vi _ => s.size - (intOf vi).toNat)
    case atStart => exact ⟨0, k0, s.size + 1, rfl, hk0, by omega, HXS.out, HJ0.out, hc, HM.out⟩
    case round =>
      clear hc HM HJ0 HXS HG0
      obtain ⟨i, k, f, rfl, hk, hf, hdr, hj, hc, hm⟩ := hrel
      obtain ⟨f, rfl⟩ : ∃ f', f = f' + 1 := ⟨f - 1, by omega⟩
      rw [itemsF] at hdr
      have HJ := Lib.hid hj
      have HM := Lib.hid hm
      have HN := Lib.hid (fun w hm => next_at s hs k hk w hm)
      have hok := nextR_ok (s := s) (k := k) hk
      obtain ⟨⟨t, n, e⟩, hr⟩ : ∃ r, r = nextR s k := ⟨_, rfl⟩
      rw [← hr] at hdr HN hok
      simp only [tokC] at hdr HN hok
      clear hr hj hm
      go_wp2_with (fail)
      refine (HN.out _ HM.out).mono ?_
      rintro _ w2 ⟨rfl, o2⟩
      have hc2 := o2.cell hc id
      have o3 : ∀ S o, Only S wr (w2.alloc o) := fun S o => (o2.mono (fun _ h => h.elim)).alloc o
      have HM2 := Lib.hid (HM.out.only o2 id)
      have hlb := World.block_lt_of_cell? wr _ hc
      have hsz2 := o2.size
      by_cases he : e = 0
      · subst he
        rw [if_neg (by simp)] at hdr
        by_cases h4 : t.kind = 4
        · rw [if_pos h4] at hdr
          obtain ⟨hi, hxi, hdr2⟩ := drop_at hdr
          have hlen : xs.length = i + 1 := by
            have := congrArg List.length hdr2
            simp at this; omega
          obtain ⟨fn, tmps, assign, body, hy, hR⟩ := HY.out i hi wr _ HJ.out (o3 _ (Obj.cells #[Value.int IntKind.i64 t.kind, Value.string t.S, Value.int IntKind.i64 t.N, Value.int IntKind.i64 t.At] 28))
          rw [hxi] at hy
          have hy2 : Sem.run Tryd.prog (Instr.yield l #[.agg #[.int .i64 t.kind, .string t.S, .int .i64 t.N, .int .i64 t.At], .int .i64 0]) (w2.alloc (Obj.cells #[Value.int IntKind.i64 t.kind, Value.string t.S, Value.int IntKind.i64 t.N, Value.int IntKind.i64 t.At] 28)) = _ := hy
          have h4i : ((t.kind : Int) == 4) = true := by simp [h4]
          clear hc hy hdr hdr2 hxi o2 hok HN h4
          go_upto_region 7 with fail
          refine (wpIn_wide (n := 0)).1 ?_
          gi_wp2
          refine ⟨rfl, hR.mono ?_⟩
          rintro _ W3 (⟨rfl, hk3, hj3⟩ | ⟨rfl, hk3, hx3⟩)
          · have HK := Lib.hid (HJd.out _ (by rw [hlen]; exact hj3))
            have d0 : W3.cell? ⟨w2.heap.size, 0, none⟩ = some (.int .i64 t.kind) := cell_keptT (two_of_row (heap_alloc_new w2 _) rfl) hk3 (.inr (.inr ⟨hsz2, by simp⟩))
            clear hk3 hj3 hy2 hR
            gi_wp2
            go_wp2
            exact bodyPost_ret (results_none rfl _ _ _) rfl ⟨⟨_, rfl⟩, HK.out⟩
          · have HK := Lib.hid (HJxd.out _ hx3)
            clear hk3 hx3 hy2 hR
            gi_wp2
            go_wp2
            exact bodyPost_ret (results_none rfl _ _ _) rfl ⟨⟨_, rfl⟩, HK.out⟩
        · rw [if_neg h4] at hdr
          obtain ⟨hks, hn1, hns⟩ := hok rfl h4
          obtain ⟨hi, hxi, hdr2⟩ := drop_at hdr
          have HDR := Lib.hid hdr2
          obtain ⟨fn, tmps, assign, body, hy, hR⟩ := HY.out i hi wr _ HJ.out (o3 _ (Obj.cells #[Value.int IntKind.i64 t.kind, Value.string t.S, Value.int IntKind.i64 t.N, Value.int IntKind.i64 t.At] 28))
          rw [hxi] at hy
          have hy2 : Sem.run Tryd.prog (Instr.yield l #[.agg #[.int .i64 t.kind, .string t.S, .int .i64 t.N, .int .i64 t.At], .int .i64 0]) (w2.alloc (Obj.cells #[Value.int IntKind.i64 t.kind, Value.string t.S, Value.int IntKind.i64 t.N, Value.int IntKind.i64 t.At] 28)) = _ := hy
          have h4i : ((t.kind : Int) == 4) = false := by simp; omega
          have HG : Hid (∀ w, Calls Tryd.prog 18 #[.string s, .int .i64 ((k : Int) + (n : Int))] w fun e w' => e = .returned (.int .i64 (gapTo s (k + n))) ∧ w' = w) := fun w => by
            have := gap_at s hs (k + n) hns w
            rwa [show ((k + n : Nat) : Int) = (k : Int) + (n : Int) by omega] at this
          have hge := gap_ge hns
          have hle := gap_le s (k + n)
          obtain ⟨k2, hk2⟩ : ∃ k2, k2 = gapTo s (k + n) := ⟨_, rfl⟩
          rw [← hk2] at HG HDR hge hle
          clear hc hy hdr hdr2 hxi o2 hok HN h4 hk2
          go_upto_region 7 with fail
          refine (wpIn_wide (n := 0)).1 ?_
          gi_wp2
          refine ⟨rfl, hR.mono ?_⟩
          rintro _ W3 (⟨rfl, hk3, hj3⟩ | ⟨rfl, hk3, hx3⟩)
          · have HJ3 := Lib.hid hj3
            have d0 : W3.cell? ⟨w2.heap.size, 0, none⟩ = some (.int .i64 t.kind) := cell_keptT (two_of_row (heap_alloc_new w2 _) rfl) hk3 (.inr (.inr ⟨hsz2, by simp⟩))
            have hc3 : W3.cell? ⟨bx, 0, none⟩ = some (.string s) := cell_keptT (((Only.refl (fun _ => False) w2).alloc _).cell hc2 id) hk3 (.inl (.inl rfl))
            have HM3 := Lib.hid ((HM2.out.only ((Only.refl (fun _ => False) w2).alloc (Obj.cells #[Value.int IntKind.i64 t.kind, Value.string t.S, Value.int IntKind.i64 t.N, Value.int IntKind.i64 t.At] 28)) id).kept hk3 (.inl (.inr rfl)))
            clear hk3 hj3 hy2 hR hc2
            gi_wp2
            go_wp2_with (fail)
            refine (HG.out _).mono ?_
            rintro _ w4 ⟨rfl, rfl⟩
            go_wp2_with (fail)
            go_roundw
            case rel => exact ⟨i + 1, k2, f, by go_num, by omega, by omega, HDR.out, HJ3.out, hc3, HM3.out⟩
            case measure => simp [intOf]; omega
          · have HK := Lib.hid (HJxd.out _ hx3)
            clear hk3 hx3 hy2 hR
            gi_wp2
            go_wp2
            exact bodyPost_ret (results_none rfl _ _ _) rfl ⟨⟨_, rfl⟩, HK.out⟩
      · rw [if_pos he] at hdr
        obtain ⟨hi, hxi, hdr2⟩ := drop_at hdr
        have hlen : xs.length = i + 1 := by
          have := congrArg List.length hdr2
          simp at this; omega
        obtain ⟨fn, tmps, assign, body, hy, hR⟩ := HY.out i hi wr _ HJ.out (o3 _ (Obj.cells #[Value.int IntKind.i64 t.kind, Value.string t.S, Value.int IntKind.i64 t.N, Value.int IntKind.i64 t.At] 28))
        rw [hxi] at hy
        have hy2 : Sem.run Tryd.prog (Instr.yield l #[.agg #[.int .i64 0, .string { data := #[] }, .int .i64 0, .int .i64 k], .int .i64 e]) (w2.alloc (Obj.cells #[Value.int IntKind.i64 t.kind, Value.string t.S, Value.int IntKind.i64 t.N, Value.int IntKind.i64 t.At] 28)) = _ := hy
        have hei : ((e : Int) != 0) = true := by simp; omega
        clear hc hy hdr hdr2 hxi o2 hok HN he
        go_upto_region 6 with fail
        refine (wpIn_wide (n := 0)).1 ?_
        gi_wp2
        refine ⟨rfl, hR.mono ?_⟩
        rintro _ W3 (⟨rfl, hk3, hj3⟩ | ⟨rfl, hk3, hx3⟩)
        · have HK := Lib.hid (HJd.out _ (by rw [hlen]; exact hj3))
          clear hk3 hj3 hy2 hR
          gi_wp2
          go_wp2
          exact bodyPost_ret (results_none rfl _ _ _) rfl ⟨⟨_, rfl⟩, HK.out⟩
        · have HK := Lib.hid (HJxd.out _ hx3)
          clear hk3 hx3 hy2 hR
          gi_wp2
          go_wp2
          exact bodyPost_ret (results_none rfl _ _ _) rfl ⟨⟨_, rfl⟩, HK.out⟩

end Go.Proofs.YtmoemnfflbielaaDoor
