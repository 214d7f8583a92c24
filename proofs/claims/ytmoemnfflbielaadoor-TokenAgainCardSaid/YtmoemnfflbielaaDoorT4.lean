/- The contract of the scanner's next. -/
import Derived.Test.YtmoemnfflbielaaDoorT3
import Derived.Deep.MidRow
import Derived.Deep.RegionHeld3
import Derived.Laws.Rows
namespace Go.Gav
open Go Go.RowKit

theorem two_of_row {w : World} {g : Nat} {cs : Array Value} {t : TypeId} {f : Nat × Nat} (h : w.heap[g]? = some (.cells cs t f)) {j : Nat} {v : Value} (hv : cs[j]? = some v) : w.cell? ⟨g, j, none⟩ = some v := by
  rw [cell_of_row w _ _ _ _ _ h, hv]

theorem results_row_tmp2 {P : Program} {fn : Func} {p u v : Tmp} {ty : TypeId} (h : fn.results = #[.cell p ty, .tmp u, .tmp v]) (tmps : Array Value) (w : World) (g : Nat) (t : TypeId) (cs : Array Value) (d : TypeDesc)
    (hp : tmps.getD p undef = .pointer (some ⟨g, 0, none⟩)) (hg : w.heap[g]? = some (.cells cs t (0, 0)))
    (hu : P.underlying ty = some d) (hd : (match d with | .struct _ | .array _ _ => true | _ => false) = true) (hi : (P.info? ty).map (·.size) = some cs.size) :
    (results fn tmps).run P w = .ok (.tuple #[.agg cs, tmps.getD u undef, tmps.getD v undef]) w := by
  have hp' : tmps[p]?.getD undef = .pointer (some ⟨g, 0, none⟩) := by simpa using hp
  simp only [results, h]
  simp [Result.andThen, hp', asAddr, run_loadVar_row w g t ty cs (0, 0) d hg hu hd hi]

end Go.Gav
namespace Go.Proofs.YtmoemnfflbielaaDoor
open Go.RowKit Go.Gav Go.BigFrame Go.Shelf

/-- A word. -/
structure Tok where
  kind : Nat
  S : ByteArray
  N : Nat
  At : Nat

/-- The cells of a word. -/
def tokC (t : Tok) : Array Value := #[.int .i64 t.kind, .string t.S, .int .i64 t.N, .int .i64 t.At]

def marksL : List (List UInt8) := [[45, 62], [60, 61], [123], [125], [40], [41], [44], [59], [58], [46], [61], [60], [43], [45], [42], [47], [37]]
def mk (l : List UInt8) : ByteArray := ⟨l.toArray⟩
def marksV : List Value := marksL.map fun m => .string (mk m)
/-- The table of marks. -/
def MarksAt (w : World) : Prop := w.rangeAt 0 0 marksV

theorem MarksAt.only {S : Nat → Prop} {w w' : World} (h : MarksAt w) (ho : Only S w w') (h0 : ¬ S 0) : MarksAt w' := fun j v hj => ho.cell (h j v hj) h0

/-- The first mark that a text begins with. -/
def markAt (l : List UInt8) : Option (List UInt8) := marksL.find? fun m => Lib.hasPrefix l m

/-- What next answers at a mark. -/
def markR (k : Nat) : Option (List UInt8) → Tok × Nat × Nat
  | some m => (⟨3, mk m, 0, k⟩, m.length, 0)
  | none => (⟨0, ByteArray.empty, 0, k⟩, 0, 5)
/-- What next answers. -/
def nextR (s : ByteArray) (k : Nat) : Tok × Nat × Nat :=
  if k = s.size then (⟨4, ByteArray.empty, 0, k⟩, 0, 0)
  else if isLet (byt s k) = true then (⟨0, (nameR s k).1, 0, k⟩, (nameR s k).1.size, (nameR s k).2)
  else if isDig (byt s k) = true then (⟨1, ByteArray.empty, (numR s k).1, k⟩, (numR s k).2.1, (numR s k).2.2)
  else if (byt s k).toNat = 39 then (⟨2, (nameR s (k + 1)).1, 0, k⟩, 1 + (nameR s (k + 1)).1.size, (nameR s (k + 1)).2)
  else markR k (markAt ((bys s).drop k))

theorem has_prefix (a b : ByteArray) (w : World) : Calls Tryd.prog 26 #[.string a, .string b] w fun e w' => e = .returned (.bool (Lib.hasPrefix a.data.toList b.data.toList)) ∧ w' = w := by
  obtain ⟨r, hr⟩ : ∃ r, r = Lib.hasPrefix a.data.toList b.data.toList := ⟨_, rfl⟩
  rw [← hr]
  rw [← Lib.hasPrefix_raw] at hr
  have HR := Lib.hid hr
  clear hr
  go_enter Tryd.func26, Tryd.ntmps26
  go_wp2
  · go_ret
    refine ⟨?_, rfl⟩
    rw [HR.out]
    simp
    omega
  · go_ret
    refine ⟨?_, rfl⟩
    rw [HR.out]
    simp
    omega

theorem next_end (s : ByteArray) (w : World) :
    Calls Tryd.prog 19 #[.string s, .int .i64 s.size] w fun e w' => e = .returned (.tuple #[.agg (tokC ⟨4, ByteArray.empty, 0, s.size⟩), .int .i64 0, .int .i64 0]) ∧ Only (fun _ => False) w w' := by
  go_enter Tryd.func19, Tryd.ntmps19
  go_wp2
  refine bodyPost_ret (results_row_tmp2 rfl _ _ w.heap.size 28 _ _ rfl (hp_alloc (heap_alloc_new _ _) _) Tryd.underlying28 rfl (by kernel_rfl)) rfl ?_
  exact ⟨rfl, ((Only.refl _ _).alloc _).alloc _⟩

set_option maxRecDepth 100000 in
theorem next_letter (s : ByteArray) (hs : s.size ≤ 4000000000000000000) (k : Nat) (hlt : k < s.size) (hl : isLet (byt s k) = true) (w : World) :
    Calls Tryd.prog 19 #[.string s, .int .i64 k] w fun e w' => e = .returned (.tuple #[.agg (tokC ⟨0, (nameR s k).1, 0, k⟩), .int .i64 (nameR s k).1.size, .int .i64 (nameR s k).2]) ∧ Only (fun _ => False) w w' := by
  have hby : ∀ h, (s[k]'h).toNat = (byt s k).toNat := fun h => by rw [byt_get s k h]
  have HG := Lib.hid (fun w => letter_at (byt s k) w)
  rw [hl] at HG
  have HN := Lib.hid (fun w => name_at s hs k (by omega) w)
  obtain ⟨⟨r1, r2⟩, hr⟩ : ∃ r, r = nameR s k := ⟨_, rfl⟩
  rw [← hr] at HN ⊢
  obtain ⟨x, hx⟩ : ∃ x, x = (byt s k).toNat := ⟨_, rfl⟩
  rw [← hx] at HG hby
  have hne : ((k : Int) == (s.size : Int)) = false := by simp; omega
  clear hl hr hx
  go_enter Tryd.func19, Tryd.ntmps19
  go_wp2_with (fail)
  refine (HG.out _).mono ?_
  rintro e w2 ⟨rfl, rfl⟩
  go_wp2_with (fail)
  refine (HN.out _).mono ?_
  rintro e w2 ⟨rfl, rfl⟩
  go_wp2_with (fail)
  go_region
  all_goals (
    go_wp2
    refine bodyPost_ret (results_row_tmp2 rfl _ _ w.heap.size 28 _ _ rfl (hp_alloc (heap_alloc_new _ _) _) Tryd.underlying28 rfl (by kernel_rfl)) rfl ?_
    exact ⟨rfl, (((Only.refl (fun _ => False) w).alloc _).alloc _).drew⟩)

set_option maxRecDepth 100000 in
theorem next_digit (s : ByteArray) (hs : s.size ≤ 4000000000000000000) (k : Nat) (hlt : k < s.size) (hl : isLet (byt s k) = false) (hd : isDig (byt s k) = true) (w : World) :
    Calls Tryd.prog 19 #[.string s, .int .i64 k] w fun e w' => e = .returned (.tuple #[.agg (tokC ⟨1, ByteArray.empty, (numR s k).1, k⟩), .int .i64 (numR s k).2.1, .int .i64 (numR s k).2.2]) ∧ Only (fun _ => False) w w' := by
  have hby : ∀ h, (s[k]'h).toNat = (byt s k).toNat := fun h => by rw [byt_get s k h]
  have HG := Lib.hid (fun w => letter_at (byt s k) w)
  rw [hl] at HG
  have HD := Lib.hid (fun w => digit_at (byt s k) w)
  rw [hd] at HD
  have HN := Lib.hid (fun w => number_at s hs k hlt hd w)
  obtain ⟨⟨r1, r2, r3⟩, hr⟩ : ∃ r, r = numR s k := ⟨_, rfl⟩
  rw [← hr] at HN ⊢
  obtain ⟨x, hx⟩ : ∃ x, x = (byt s k).toNat := ⟨_, rfl⟩
  rw [← hx] at HG HD hby
  have hne : ((k : Int) == (s.size : Int)) = false := by simp; omega
  clear hl hd hr hx
  go_enter Tryd.func19, Tryd.ntmps19
  go_wp2_with (fail)
  refine (HG.out _).mono ?_
  rintro e w2 ⟨rfl, rfl⟩
  go_wp2_with (fail)
  refine (HD.out _).mono ?_
  rintro e w2 ⟨rfl, rfl⟩
  go_wp2_with (fail)
  refine (HN.out _).mono ?_
  rintro e w2 ⟨rfl, rfl⟩
  go_wp2
  refine bodyPost_ret (results_row_tmp2 rfl _ _ w.heap.size 28 _ _ rfl (hp_alloc (heap_alloc_new _ _) _) Tryd.underlying28 rfl (by kernel_rfl)) rfl ?_
  exact ⟨rfl, ((Only.refl (fun _ => False) w).alloc _).alloc _⟩

theorem nameR_size (s : ByteArray) (k : Nat) : (nameR s k).1.size ≤ 16 := by
  unfold nameR
  split
  · split
    · simp
    · simp only [ByteArray.size_extract]; omega
  · simp

set_option maxRecDepth 100000 in
theorem next_sym (s : ByteArray) (hs : s.size ≤ 4000000000000000000) (k : Nat) (hlt : k < s.size) (hx : (byt s k).toNat = 39) (w : World) :
    Calls Tryd.prog 19 #[.string s, .int .i64 k] w fun e w' => e = .returned (.tuple #[.agg (tokC ⟨2, (nameR s (k + 1)).1, 0, k⟩), .int .i64 (1 + (nameR s (k + 1)).1.size : Nat), .int .i64 (nameR s (k + 1)).2]) ∧ Only (fun _ => False) w w' := by
  have hby : ∀ h, (s[k]'h).toNat = (byt s k).toNat := fun h => by rw [byt_get s k h]
  have HG := Lib.hid (fun w => letter_at (byt s k) w)
  rw [show isLet (byt s k) = false by simp [isLet, hx]] at HG
  have HD := Lib.hid (fun w => digit_at (byt s k) w)
  rw [show isDig (byt s k) = false by simp [isDig, hx]] at HD
  have HN := Lib.hid (fun w => name_at s hs (k + 1) (by omega) w)
  rw [show ((k + 1 : Nat) : Int) = (k : Int) + 1 by omega] at HN
  have hsz := nameR_size s (k + 1)
  obtain ⟨⟨r1, r2⟩, hr⟩ : ∃ r, r = nameR s (k + 1) := ⟨_, rfl⟩
  rw [← hr] at HN hsz ⊢
  simp only at hsz
  rw [hx] at HG HD hby
  have hne : ((k : Int) == (s.size : Int)) = false := by simp; omega
  have e1 : ((1 + r1.size : Nat) : Int) = 1 + (r1.size : Int) := by omega
  have E1 := Lib.hid e1
  clear hr hx e1
  go_enter Tryd.func19, Tryd.ntmps19
  go_wp2_with (fail)
  refine (HG.out _).mono ?_
  rintro e w2 ⟨rfl, rfl⟩
  go_wp2_with (fail)
  refine (HD.out _).mono ?_
  rintro e w2 ⟨rfl, rfl⟩
  go_wp2_with (fail)
  refine (HN.out _).mono ?_
  rintro e w2 ⟨rfl, rfl⟩
  go_wp2_with (fail)
  go_region
  all_goals (
    go_wp2
    refine bodyPost_ret (results_row_tmp2 rfl _ _ w.heap.size 28 _ _ rfl (hp_alloc (heap_alloc_new _ _) _) Tryd.underlying28 rfl (by kernel_rfl)) rfl ?_
    exact ⟨by rw [E1.out]; rfl, (((Only.refl (fun _ => False) w).alloc _).alloc _).drew⟩)

theorem mark_index : ∀ (i : Nat), i < 17 → ∀ w : World, (Instr.index 53 (.agg marksV.toArray) (.int .i64 (i : Nat))).run Tryd.prog w = .ok (.string (mk (marksL.getD i []))) w
  | 0, _, w => by show Sem.run _ _ w = _; kernel_rfl
  | 1, _, w => by show Sem.run _ _ w = _; kernel_rfl
  | 2, _, w => by show Sem.run _ _ w = _; kernel_rfl
  | 3, _, w => by show Sem.run _ _ w = _; kernel_rfl
  | 4, _, w => by show Sem.run _ _ w = _; kernel_rfl
  | 5, _, w => by show Sem.run _ _ w = _; kernel_rfl
  | 6, _, w => by show Sem.run _ _ w = _; kernel_rfl
  | 7, _, w => by show Sem.run _ _ w = _; kernel_rfl
  | 8, _, w => by show Sem.run _ _ w = _; kernel_rfl
  | 9, _, w => by show Sem.run _ _ w = _; kernel_rfl
  | 10, _, w => by show Sem.run _ _ w = _; kernel_rfl
  | 11, _, w => by show Sem.run _ _ w = _; kernel_rfl
  | 12, _, w => by show Sem.run _ _ w = _; kernel_rfl
  | 13, _, w => by show Sem.run _ _ w = _; kernel_rfl
  | 14, _, w => by show Sem.run _ _ w = _; kernel_rfl
  | 15, _, w => by show Sem.run _ _ w = _; kernel_rfl
  | 16, _, w => by show Sem.run _ _ w = _; kernel_rfl
  | i + 17, h, _ => by omega

theorem mk_size (m : List UInt8) : (mk m).size = m.length := by simp [mk, ByteArray.size]

theorem find_hit {p : List UInt8 → Bool} : ∀ (L : List (List UInt8)) (i : Nat), i < L.length → (∀ m ∈ L.take i, p m = false) → p (L.getD i []) = true → L.find? p = some (L.getD i [])
  | [], i, h, _, _ => by simp at h
  | a :: L, 0, _, _, hp => by simpa using List.find?_cons_of_pos (p := p) (by simpa using hp)
  | a :: L, i + 1, h, hn, hp => by
    have h1 := hn a (by simp)
    rw [List.find?_cons_of_neg (by simp [h1])]
    exact find_hit L i (by simpa using h) (fun m hm => hn m (by simp [hm])) (by simpa using hp)

theorem take_more {p : List UInt8 → Bool} {L : List (List UInt8)} {i : Nat} (hi : i < L.length) (h : ∀ m ∈ L.take i, p m = false) (hp : p (L.getD i []) = false) : ∀ m ∈ L.take (i + 1), p m = false := by
  intro m hm
  rw [List.take_succ_eq_append_getElem hi] at hm
  rcases List.mem_append.1 hm with h1 | h1
  · exact h m h1
  · have : m = L.getD i [] := by simpa [hi] using h1
    rw [this]; exact hp

set_option maxRecDepth 100000 in
set_option maxHeartbeats 1000000 in
theorem next_mark (s : ByteArray) (_hs : s.size ≤ 4000000000000000000) (k : Nat) (hlt : k < s.size) (hl : isLet (byt s k) = false) (hd : isDig (byt s k) = false) (h39 : (byt s k).toNat ≠ 39) (w : World) (hm : MarksAt w) :
    Calls Tryd.prog 19 #[.string s, .int .i64 k] w fun e w' => e = .returned (.tuple #[.agg (tokC (markR k (markAt ((bys s).drop k))).1), .int .i64 (markR k (markAt ((bys s).drop k))).2.1, .int .i64 (markR k (markAt ((bys s).drop k))).2.2]) ∧ Only (fun _ => False) w w' := by
  have hby : ∀ h, (s[k]'h).toNat = (byt s k).toNat := fun h => by rw [byt_get s k h]
  have HG := Lib.hid (fun w => letter_at (byt s k) w)
  rw [hl] at HG
  have HD := Lib.hid (fun w => digit_at (byt s k) w)
  rw [hd] at HD
  obtain ⟨x, hx⟩ : ∃ x, x = (byt s k).toNat := ⟨_, rfl⟩
  rw [← hx] at HG HD hby h39
  have hne : ((k : Int) == (s.size : Int)) = false := by simp; omega
  have hne2 : ((x : Int) == 39) = false := by simp; omega
  have hpre : ∀ m w, Calls Tryd.prog 26 #[.string (s.extract k s.size), .string (mk m)] w fun e w' => e = .returned (.bool (Lib.hasPrefix ((bys s).drop k) m)) ∧ w' = w := fun m w => by
    have h := has_prefix (s.extract k s.size) (mk m) w
    rw [Lib.extract_data, List.take_of_length_le (by rw [List.length_drop, Lib.size_eq]; omega)] at h
    exact h
  have HP := Lib.hid hpre
  obtain ⟨l, hl2⟩ : ∃ l, l = (bys s).drop k := ⟨_, rfl⟩
  rw [← hl2] at HP ⊢
  obtain ⟨r, hr⟩ : ∃ r, r = markR k (markAt l) := ⟨_, rfl⟩
  rw [← hr]
  have HR := Lib.hid hr
  obtain ⟨mv, hmv⟩ : ∃ mv, mv = marksV.toArray := ⟨_, rfl⟩
  have hidx := mark_index
  rw [← hmv] at hidx
  have HI := Lib.hid hidx
  have HM := Lib.hid hm
  have HMV := Lib.hid hmv
  clear hl hd hx h39 hpre hl2 hidx hm hmv hr
  go_enter Tryd.func19, Tryd.ntmps19
  go_wp2_with (fail)
  refine (HG.out _).mono ?_
  rintro e w2 ⟨rfl, rfl⟩
  go_wp2_with (fail)
  refine (HD.out _).mono ?_
  rintro e w2 ⟨rfl, rfl⟩
  have HM2 := Lib.hid (HM.out.only (((Only.refl (fun _ => False) w).alloc (Obj.cells #[Value.int IntKind.i64 0, Value.string { data := #[] }, Value.int IntKind.i64 0, Value.int IntKind.i64 0] 28)).alloc (Obj.cells #[Value.int IntKind.i64 0, Value.string { data := #[] }, Value.int IntKind.i64 0, Value.int IntKind.i64 k] 28)) id)
  go_wp2_with (refine wpList_load_mid rfl 53 (.global 0) rfl 0 0 rfl marksV _ HM2.out Tryd.underlying53 rfl (by kernel_rfl) ?_)
  rw [← HMV.out]
  go_loopw [12, 73] (fun _ vi wr => ∃ i : Nat, i ≤ 17 ∧ vi = .int .i64 i ∧ (∀ m ∈ marksL.take i, Lib.hasPrefix l m = false) ∧ wr = (w.alloc (Obj.cells #[Value.int IntKind.i64 0, Value.string { data := #[] }, Value.int IntKind.i64 0, Value.int IntKind.i64 0] 28)).alloc (Obj.cells #[Value.int IntKind.i64 0, Value.string { data := #[] }, Value.int IntKind.i64 0, Value.int IntKind.i64 k] 28))
    (fun _ vi _ => 17 - (intOf vi).toNat)
  case atStart => exact ⟨0, Nat.zero_le _, rfl, fun m hm => by simp at hm, rfl⟩
  case round =>
    obtain ⟨i, hi, rfl, hno, rfl⟩ := hrel
    have HNO := Lib.hid hno
    clear hno
    by_cases h17 : i < 17
    · have hix := HI.out i h17
      obtain ⟨m, hmm⟩ : ∃ m, m = marksL.getD i [] := ⟨_, rfl⟩
      rw [← hmm] at hix
      have HMM := Lib.hid hmm
      clear hmm
      cases hp : Lib.hasPrefix l m with
      | true =>
        have HP2 := HP.out m
        rw [hp] at HP2
        have HP3 := Lib.hid HP2
        have hfind : markAt l = some m := by
          rw [HMM.out]
          exact find_hit marksL i h17 HNO.out (by rw [← HMM.out]; exact hp)
        have HF := Lib.hid hfind
        clear hp HP2 hfind
        go_wp2_with (fail)
        refine (HP3.out _).mono ?_
        rintro e w2 ⟨rfl, rfl⟩
        go_wp2
        refine bodyPost_ret (results_row_tmp2 rfl _ _ w.heap.size 28 _ _ rfl (hp_alloc (heap_alloc_new _ _) _) Tryd.underlying28 rfl (by kernel_rfl)) rfl ?_
        exact ⟨by rw [HR.out, HF.out]; show _ = Ending.returned (.tuple #[_, .int .i64 (m.length : Nat), _]); rw [← mk_size]; rfl, ((Only.refl (fun _ => False) w).alloc _).alloc _⟩
      | false =>
        have HP2 := HP.out m
        rw [hp] at HP2
        have HP3 := Lib.hid HP2
        have hnx := Lib.hid (take_more (L := marksL) (p := fun m => Lib.hasPrefix l m) h17 HNO.out (by rw [← HMM.out]; exact hp))
        clear hp HP2
        go_wp2_with (fail)
        refine (HP3.out _).mono ?_
        rintro e w2 ⟨rfl, rfl⟩
        go_wp2
        go_roundw
        case rel => exact ⟨i + 1, by omega, by go_num, hnx.out, by first | rfl | trivial⟩
        case measure => simp [intOf]; omega
    · obtain rfl : i = 17 := by omega
      have hnone : markAt l = none := by
        unfold markAt
        rw [List.find?_eq_none]
        intro m hm
        have := HNO.out m (by rw [show marksL.take 17 = marksL from rfl]; exact hm)
        simp [this]
      have HF := Lib.hid hnone
      clear hnone
      go_wp2
      refine bodyPost_ret (results_row_tmp2 rfl _ _ w.heap.size 28 _ _ rfl (hp_alloc (heap_alloc_new _ _) _) Tryd.underlying28 rfl (by kernel_rfl)) rfl ?_
      exact ⟨by rw [HR.out, HF.out]; rfl, ((Only.refl (fun _ => False) w).alloc _).alloc _⟩

/-- next answers nextR. -/
theorem next_at (s : ByteArray) (hs : s.size ≤ 4000000000000000000) (k : Nat) (hk : k ≤ s.size) (w : World) (hm : MarksAt w) :
    Calls Tryd.prog 19 #[.string s, .int .i64 k] w fun e w' => e = .returned (.tuple #[.agg (tokC (nextR s k).1), .int .i64 (nextR s k).2.1, .int .i64 (nextR s k).2.2]) ∧ Only (fun _ => False) w w' := by
  by_cases h0 : k = s.size
  · subst h0
    unfold nextR
    rw [if_pos rfl]
    exact next_end s w
  · by_cases h1 : isLet (byt s k) = true
    · unfold nextR
      rw [if_neg h0, if_pos h1]
      exact next_letter s hs k (by omega) h1 w
    · by_cases h2 : isDig (byt s k) = true
      · unfold nextR
        rw [if_neg h0, if_neg h1, if_pos h2]
        exact next_digit s hs k (by omega) (by simpa using h1) h2 w
      · by_cases h3 : (byt s k).toNat = 39
        · unfold nextR
          rw [if_neg h0, if_neg h1, if_neg h2, if_pos h3]
          exact next_sym s hs k (by omega) h3 w
        · have h := next_mark s hs k (by omega) (by simpa using h1) (by simpa using h2) h3 w hm
          unfold nextR
          rw [if_neg h0, if_neg h1, if_neg h2, if_neg h3]
          exact h

end Go.Proofs.YtmoemnfflbielaaDoor
