/- The contract of the document's Scan: it answers what Scan answers. -/
import Derived.Test.YtmoemnfflbielaaDoorT8
namespace Go.Proofs.YtmoemnfflbielaaDoor
open Go.RowKit Go.Gav Go.BigFrame Go.Shelf

def okT (t : Tok) : Tok × Nat := (t, 0)

theorem items_step {s : ByteArray} {k f n : Nat} {pre : List Tok} {t : Tok} (h : items s = pre.map okT ++ itemsF s (f + 1) k) (hn : nextR s k = (t, n, 0)) (h4 : t.kind ≠ 4) :
    items s = (pre ++ [t]).map okT ++ itemsF s f (gapTo s (k + n)) := by
  rw [h, itemsF, hn]
  simp [h4, okT]

theorem find_pre (pre : List Tok) : (pre.map okT).find? (fun x => x.2 != 0) = none := by
  rw [List.find?_eq_none]
  intro x hx
  obtain ⟨t, _, rfl⟩ := List.mem_map.1 hx
  simp [okT]

theorem items_err {s : ByteArray} {k f n e : Nat} {pre : List Tok} {t : Tok} (h : items s = pre.map okT ++ itemsF s (f + 1) k) (hn : nextR s k = (t, n, e)) (he : e ≠ 0) : scanR s = ([], k, e) := by
  unfold scanR
  rw [h, itemsF, hn]
  simp only
  rw [if_pos he, List.find?_append, find_pre, List.find?_cons_of_pos (by simpa using he)]
  rfl

theorem items_end {s : ByteArray} {f : Nat} {pre : List Tok} (h : items s = pre.map okT ++ itemsF s (f + 1) s.size) : scanR s = (pre ++ [(⟨4, ByteArray.empty, 0, s.size⟩ : Tok)], 0, 0) := by
  have hn : nextR s s.size = (⟨4, ByteArray.empty, 0, s.size⟩, 0, 0) := by unfold nextR; rw [if_pos rfl]
  have e : items s = (pre ++ [(⟨4, ByteArray.empty, 0, s.size⟩ : Tok)]).map okT := by
    rw [h, itemsF, hn]
    simp [okT]
  unfold scanR
  rw [e, find_pre]
  simp only [List.map_map]
  have : ((fun x : Tok × Nat => x.1) ∘ okT) = id := rfl
  rw [this, List.map_id]

theorem next_is_letter {s : ByteArray} {k : Nat} (hlt : k < s.size) (h : isLet (byt s k) = true) : nextR s k = (⟨0, (nameR s k).1, 0, k⟩, (nameR s k).1.size, (nameR s k).2) := by
  unfold nextR; rw [if_neg (by omega), if_pos h]
theorem next_is_sym {s : ByteArray} {k : Nat} (hlt : k < s.size) (h : (byt s k).toNat = 39) : nextR s k = (⟨2, (nameR s (k + 1)).1, 0, k⟩, 1 + (nameR s (k + 1)).1.size, (nameR s (k + 1)).2) := by
  unfold nextR; rw [if_neg (by omega), if_neg (by simp [isLet, h]), if_neg (by simp [isDig, h]), if_pos h]
theorem next_is_digit {s : ByteArray} {k : Nat} (hlt : k < s.size) (hl : isLet (byt s k) = false) (h : isDig (byt s k) = true) : nextR s k = (⟨1, ByteArray.empty, (numR s k).1, k⟩, (numR s k).2.1, (numR s k).2.2) := by
  unfold nextR; rw [if_neg (by omega), if_neg (by simp [hl]), if_pos h]
theorem next_is_mark {s : ByteArray} {k : Nat} (hlt : k < s.size) (hl : isLet (byt s k) = false) (hd : isDig (byt s k) = false) (h : (byt s k).toNat ≠ 39) : nextR s k = markR k (markAt ((bys s).drop k)) := by
  unfold nextR; rw [if_neg (by omega), if_neg (by simp [hl]), if_neg (by simp [hd]), if_neg h]
theorem name_long {s : ByteArray} {k : Nat} (hlt : k < s.size) (h : isLet (byt s k) = true) (hm : run s isWord k - k > 16) : nameR s k = (ByteArray.empty, 9) := by
  unfold nameR; rw [if_pos ⟨hlt, h⟩, if_pos hm]
theorem name_fits {s : ByteArray} {k : Nat} (hlt : k < s.size) (h : isLet (byt s k) = true) (hm : ¬ run s isWord k - k > 16) : nameR s k = (s.extract k (run s isWord k), 0) := by
  unfold nameR; rw [if_pos ⟨hlt, h⟩, if_neg hm]
theorem name_none {s : ByteArray} {k : Nat} (h : ¬ (k < s.size ∧ isLet (byt s k) = true)) : nameR s k = (ByteArray.empty, 5) := by
  unfold nameR; rw [if_neg h]

theorem res_ext {w' w : World} {s : ByteArray} {ts : List Tok} {v : Value} {n : Nat} (hr : (scanR s).1 = ts) (h : w'.ownsRow w.heap.size 41 4 v n (flatT ts)) : w'.ownsRow w.heap.size 41 4 v n (flatT (scanR s).1) := by rw [hr]; exact h

set_option maxRecDepth 100000 in
set_option maxHeartbeats 100000000 in
theorem ref_scan (s : ByteArray) (hs : s.size ≤ 4000000000000000000) (w : World) :
    Calls Tryd.prog 10 #[.string s] w fun e w' => ∃ v, e = .returned (.tuple #[v, .int .i64 (scanR s).2.1, .int .i64 (scanR s).2.2]) ∧ (∃ n, w'.ownsRow w.heap.size 41 4 v n (flatT (scanR s).1)) ∧ Only (fun _ => False) w w' := by
  obtain ⟨i0, hi0, hz0, hz1, hz2⟩ := info_parts info41
  obtain ⟨r, hr⟩ : ∃ r, r = scanR s := ⟨_, rfl⟩
  rw [← hr]
  have HR := Lib.hid hr
  clear hr
  by_cases hbig : s.size > 16384
  · have he : scanR s = ([], 0, 9) := by
      unfold scanR items
      rw [if_pos hbig]
      rfl
    rw [he] at HR
    go_enter Tryd.func10, Tryd.ntmps10
    go_wp2
    go_ret3
    exact ⟨_, by rw [HR.out]; rfl, ⟨0, by rw [HR.out]; exact World.ownsRow_nil _ _ _ _⟩, Only.refl _ _⟩
  · have hit : items s = ([] : List Tok).map okT ++ itemsF s (s.size + 1) (gapTo s 0) := by unfold items; rw [if_neg hbig]; rfl
    have HIT := Lib.hid hit
    clear hit
    go_enter Tryd.func10, Tryd.ntmps10
    go_wp2
    go_loopw [5, 6] (fun vo va wr => ∃ (k f : Nat) (pre : List Tok), k ≤ s.size ∧ va = .int .i64 k ∧ items s = pre.map okT ++ itemsF s f (gapTo s k) ∧ s.size < f + gapTo s k ∧ pre.length ≤ k ∧ wr.ownsRow w.heap.size 41 4 vo pre.length (flatT pre) ∧ Only (fun _ => False) w wr)
      (fun _ va _ => s.size - (intOf va).toNat)
    case atStart => exact ⟨0, s.size + 1, [], Nat.zero_le _, rfl, HIT.out, by omega, Nat.le_refl _, by simpa [flatT] using World.ownsRow_nil w w.heap.size 41 4, Only.refl _ _⟩
    case round =>
      clear HIT
      obtain ⟨k, f, pre, hk, rfl, hit, hf, hpl, hown, ho⟩ := hrel
      obtain ⟨p, hp⟩ : ∃ p, p = pre.length := ⟨_, rfl⟩
      rw [← hp] at hpl hown
      have HP := Lib.hid hp
      have HIT := Lib.hid hit
      have HO := Lib.hid ho
      have HOWN := Lib.hid hown
      have hsz := ho.size
      have hwB : Only (fun _ => False) w w := Only.refl _ _
      clear hit ho hown hp hwB
      by_cases hlt : k < s.size
      · have hby : ∀ h, (s[k]'h).toNat = (byt s k).toNat := fun h => by rw [byt_get s k h]
        obtain ⟨x, hx⟩ : ∃ x, x = (byt s k).toNat := ⟨_, rfl⟩
        rw [← hx] at hby
        have HX := Lib.hid hx
        clear hx
        by_cases hb : x = 32 ∨ x = 9 ∨ x = 10
        · have hbl : isBlank (byt s k) = true := by unfold isBlank; rw [← HX.out]; simpa [or_assoc] using hb
          have hg := gap_blank hlt hbl
          have HI2 := HIT.out
          rw [hg] at HI2 hf
          have HI3 := Lib.hid HI2
          clear hg HI2 hbl HIT
          by_cases h1 : x = 32
          · subst h1
            clear hb
            go_wp2
            go_roundw
            case rel => first | exact ⟨k + 1, f, pre, by omega, by go_num, HI3.out, hf, by rw [← HP.out]; omega, by rw [← HP.out]; exact HOWN.out, HO.out⟩ | ((repeat apply Exists.intro); exact ⟨⟨k + 1, f, pre, by omega, by go_num, HI3.out, hf, by rw [← HP.out]; omega, by rw [← HP.out]; exact HOWN.out, HO.out⟩, rfl⟩)
            case measure => simp [intOf]; omega
          · by_cases h2 : x = 9
            · subst h2
              clear hb
              go_wp2
              go_roundw
              case rel => first | exact ⟨k + 1, f, pre, by omega, by go_num, HI3.out, hf, by rw [← HP.out]; omega, by rw [← HP.out]; exact HOWN.out, HO.out⟩ | ((repeat apply Exists.intro); exact ⟨⟨k + 1, f, pre, by omega, by go_num, HI3.out, hf, by rw [← HP.out]; omega, by rw [← HP.out]; exact HOWN.out, HO.out⟩, rfl⟩)
              case measure => simp [intOf]; omega
            · obtain rfl : x = 10 := by omega
              clear hb
              go_wp2
              go_roundw
              case rel => first | exact ⟨k + 1, f, pre, by omega, by go_num, HI3.out, hf, by rw [← HP.out]; omega, by rw [← HP.out]; exact HOWN.out, HO.out⟩ | ((repeat apply Exists.intro); exact ⟨⟨k + 1, f, pre, by omega, by go_num, HI3.out, hf, by rw [← HP.out]; omega, by rw [← HP.out]; exact HOWN.out, HO.out⟩, rfl⟩)
              case measure => simp [intOf]; omega
        · have hbl : isBlank (byt s k) = false := by unfold isBlank; rw [← HX.out]; simpa [or_assoc, and_assoc] using hb
          have g1 : ((x : Int) == 32) = false := by simp; omega
          have g2 : ((x : Int) == 9) = false := by simp; omega
          have g3 : ((x : Int) == 10) = false := by simp; omega
          by_cases h35 : x = 35
          · have hg := gap_hash hlt (by rw [← HX.out]; exact h35)
            have hst := run_step (p := notNl) hlt (by unfold notNl; rw [← HX.out, h35]; rfl)
            have hge := run_ge s notNl (k + 1)
            have hle := run_le (p := notNl) hk
            rw [hst] at hge
            obtain ⟨m, hm⟩ : ∃ m, m = run s notNl k := ⟨_, rfl⟩
            have HI2 := HIT.out
            rw [hg, ← hm] at HI2 hf
            have HI3 := Lib.hid HI2
            rw [← hm] at hge hle
            have HM := Lib.hid hm
            subst h35
            clear hb hbl hg hst hm HI2 HIT g1 g2 g3
            go_wp2
            go_loopw [6] (fun vi w2 => ∃ i : Nat, k ≤ i ∧ i ≤ m ∧ vi = .int .i64 i ∧ run s notNl i = m ∧ w2 = wr) (fun vi _ => m - (intOf vi).toNat)
            case atStart => exact ⟨k, Nat.le_refl _, by omega, rfl, HM.out.symm, rfl⟩
            case round =>
              obtain ⟨i, hi1, hi2, rfl, hri, rfl⟩ := hrel
              have HRI := Lib.hid hri
              clear hri
              by_cases his : i < s.size
              · have hby2 : ∀ h, (s[i]'h).toNat = (byt s i).toNat := fun h => by rw [byt_get s i h]
                obtain ⟨y, hy⟩ : ∃ y, y = (byt s i).toNat := ⟨_, rfl⟩
                rw [← hy] at hby2
                by_cases h10 : y = 10
                · have hs2 := run_stop (p := notNl) his (by unfold notNl; rw [← hy, h10]; rfl)
                  have him : i = m := hs2.symm.trans HRI.out
                  subst him
                  subst h10
                  clear hy hs2
                  go_wp2
                  go_roundw
                  case rel => first | exact ⟨i, f, pre, by omega, rfl, HI3.out, by omega, by rw [← HP.out]; omega, by rw [← HP.out]; exact HOWN.out, HO.out⟩ | ((repeat apply Exists.intro); exact ⟨⟨i, f, pre, by omega, rfl, HI3.out, by omega, by rw [← HP.out]; omega, by rw [← HP.out]; exact HOWN.out, HO.out⟩, rfl⟩)
                  case measure => simp [intOf]; omega
                · have hs2 := run_step (p := notNl) his (by unfold notNl; rw [← hy]; simp [h10])
                  have HS2 := Lib.hid (hs2.trans HRI.out)
                  have hle2 := run_ge s notNl (i + 1)
                  rw [HS2.out] at hle2
                  have h10i : ((y : Int) != 10) = true := by simp; omega
                  clear hy hs2 h10
                  go_wp2
                  go_roundw
                  case rel => first | exact ⟨i + 1, by omega, by omega, by go_num, HS2.out, by first | rfl | trivial⟩ | ((repeat apply Exists.intro); exact ⟨⟨i + 1, by omega, by omega, by go_num, HS2.out, by first | rfl | trivial⟩, rfl⟩)
                  case measure => simp [intOf]; omega
              · have him : i = m := (run_end (p := notNl) (by omega)).symm.trans HRI.out
                subst him
                go_wp2
                go_roundw
                case rel => first | exact ⟨i, f, pre, by omega, rfl, HI3.out, by omega, by rw [← HP.out]; omega, by rw [← HP.out]; exact HOWN.out, HO.out⟩ | ((repeat apply Exists.intro); exact ⟨⟨i, f, pre, by omega, rfl, HI3.out, by omega, by rw [← HP.out]; omega, by rw [← HP.out]; exact HOWN.out, HO.out⟩, rfl⟩)
                case measure => simp [intOf]; omega
          · have hg := gap_stop hlt hbl (by rw [← HX.out]; exact h35)
            have HI2 := HIT.out
            rw [hg] at HI2 hf
            obtain ⟨f, rfl⟩ : ∃ f', f = f' + 1 := ⟨f - 1, by omega⟩
            have HI3 := Lib.hid HI2
            have g4 : ((x : Int) == 35) = false := by simp; omega
            clear hb hbl hg HI2 HIT h35
            have HLc := Lib.hid (fun w => rletter_at (byt s k) w)
            have HDc := Lib.hid (fun w => rdigit_at (byt s k) w)
            rw [← HX.out] at HLc HDc
            cases hl : isLet (byt s k) with
            | true =>
              rw [hl] at HLc
              have g5 : ((x : Int) == 39) = false := by
                have := HX.out
                simp [isLet] at hl
                simp; omega
              have hnx := next_is_letter hlt hl
              as_aux_lemma =>
                have hle := run_le (p := isWord) (Nat.le_of_lt hlt)
                have hge := run_ge s isWord (k + 1)
                rw [run_step hlt (by simp [isWord, hl])] at hge
                by_cases h16 : run s isWord k - k > 16
                · rw [name_long hlt hl h16] at hnx
                  have he := items_err HI3.out hnx (by decide)
                  rw [he] at HR
                  obtain ⟨m, hm⟩ : ∃ m, m = run s isWord k := ⟨_, rfl⟩
                  rw [← hm] at hle hge h16
                  have HM := Lib.hid hm
                  clear hnx he hm HI3
                  have hne : ((k : Int) == (s.size : Int)) = false := by simp; omega
                  clear hl
                  go_wp2_with (fail)
                  refine (HLc.out _).mono ?_
                  rintro _ wx ⟨rfl, hwx⟩
                  replace hwx := hwx.symm
                  subst hwx
                  go_wp2_with (fail)
                  refine (HLc.out _).mono ?_
                  rintro _ wx ⟨rfl, hwx⟩
                  replace hwx := hwx.symm
                  subst hwx
                  go_wp2
                  go_loopw [6] (fun vi w2 => ∃ i : Nat, k ≤ i ∧ i ≤ m ∧ vi = .int .i64 i ∧ run s isWord i = m ∧ w2 = wr) (fun vi _ => m - (intOf vi).toNat)
                  case atStart => exact ⟨k, Nat.le_refl _, by omega, by first | rfl | go_num, HM.out.symm, rfl⟩
                  case round =>
                    obtain ⟨i, hi1, hi2, rfl, hri, rfl⟩ := hrel
                    have HRI := Lib.hid hri
                    clear hri
                    by_cases his : i < s.size
                    · have hby2 : ∀ h, (s[i]'h).toNat = (byt s i).toNat := fun h => by rw [byt_get s i h]
                      have HLi := Lib.hid (fun w => rletter_at (byt s i) w)
                      have HDi := Lib.hid (fun w => rdigit_at (byt s i) w)
                      have hwo : isWord (byt s i) = (isLet (byt s i) || isDig (byt s i)) := rfl
                      cases hli : isLet (byt s i) with
                      | true =>
                        rw [hli] at HLi hwo
                        have hs2 := run_step (p := isWord) his hwo
                        have HS2 := Lib.hid (hs2.trans HRI.out)
                        have hle2 := run_ge s isWord (i + 1)
                        rw [HS2.out] at hle2
                        obtain ⟨y, hy⟩ : ∃ y, y = (byt s i).toNat := ⟨_, rfl⟩
                        rw [← hy] at hby2 HLi
                        clear hwo hs2 hli hy HDi
                        go_wp2_with (fail)
                        refine (HLi.out _).mono ?_
                        rintro _ wx ⟨rfl, hwx⟩
                        replace hwx := hwx.symm
                        subst hwx
                        go_wp2
                        go_roundw
                        case rel => first | exact ⟨i + 1, by omega, by omega, by go_num, HS2.out, by first | rfl | trivial⟩ | ((repeat apply Exists.intro); exact ⟨⟨i + 1, by omega, by omega, by go_num, HS2.out, by first | rfl | trivial⟩, rfl⟩)
                        case measure => simp [intOf]; omega
                      | false =>
                        rw [hli] at HLi hwo
                        cases hdi : isDig (byt s i) with
                        | true =>
                          rw [hdi] at HDi hwo
                          have hs2 := run_step (p := isWord) his hwo
                          have HS2 := Lib.hid (hs2.trans HRI.out)
                          have hle2 := run_ge s isWord (i + 1)
                          rw [HS2.out] at hle2
                          obtain ⟨y, hy⟩ : ∃ y, y = (byt s i).toNat := ⟨_, rfl⟩
                          rw [← hy] at hby2 HLi HDi
                          clear hwo hs2 hli hdi hy
                          go_wp2_with (fail)
                          refine (HLi.out _).mono ?_
                          rintro _ wx ⟨rfl, hwx⟩
                          replace hwx := hwx.symm
                          subst hwx
                          go_wp2_with (fail)
                          refine (HDi.out _).mono ?_
                          rintro _ wx ⟨rfl, hwx⟩
                          replace hwx := hwx.symm
                          subst hwx
                          go_wp2
                          go_roundw
                          case rel => first | exact ⟨i + 1, by omega, by omega, by go_num, HS2.out, by first | rfl | trivial⟩ | ((repeat apply Exists.intro); exact ⟨⟨i + 1, by omega, by omega, by go_num, HS2.out, by first | rfl | trivial⟩, rfl⟩)
                          case measure => simp [intOf]; omega
                        | false =>
                          rw [hdi] at HDi hwo
                          have him : i = m := (run_stop (p := isWord) his hwo).symm.trans HRI.out
                          subst him
                          obtain ⟨y, hy⟩ : ∃ y, y = (byt s i).toNat := ⟨_, rfl⟩
                          rw [← hy] at hby2 HLi HDi
                          clear hwo hli hdi hy
                          go_wp2_with (fail)
                          refine (HLi.out _).mono ?_
                          rintro _ wx ⟨rfl, hwx⟩
                          replace hwx := hwx.symm
                          subst hwx
                          go_wp2_with (fail)
                          refine (HDi.out _).mono ?_
                          rintro _ wx ⟨rfl, hwx⟩
                          replace hwx := hwx.symm
                          subst hwx
                          go_wp2
                          go_ret3
                          exact ⟨_, by rw [HR.out]; rfl, ⟨0, by rw [HR.out]; exact World.ownsRow_nil _ _ _ _⟩, HO.out⟩
                    · have him : i = m := (run_end (p := isWord) (by omega)).symm.trans HRI.out
                      subst him
                      go_wp2
                      go_ret3
                      exact ⟨_, by rw [HR.out]; rfl, ⟨0, by rw [HR.out]; exact World.ownsRow_nil _ _ _ _⟩, HO.out⟩
                · rw [name_fits hlt hl h16] at hnx
                  have hI4 := items_step HI3.out hnx (by show 0 ≠ 4; decide)
                  obtain ⟨m, hm⟩ : ∃ m, m = run s isWord k := ⟨_, rfl⟩
                  rw [← hm] at hle hge h16 hI4
                  have esz : k + (s.extract k m).size = m := by rw [ByteArray.size_extract]; omega
                  rw [esz] at hI4
                  have HI4 := Lib.hid hI4
                  have HM := Lib.hid hm
                  have hgg := gap_ge hle
                  clear hnx hI4 hm HI3 esz
                  have hne : ((k : Int) == (s.size : Int)) = false := by simp; omega
                  clear hl
                  go_wp2_with (fail)
                  refine (HLc.out _).mono ?_
                  rintro _ wx ⟨rfl, hwx⟩
                  replace hwx := hwx.symm
                  subst hwx
                  go_wp2_with (fail)
                  refine (HLc.out _).mono ?_
                  rintro _ wx ⟨rfl, hwx⟩
                  replace hwx := hwx.symm
                  subst hwx
                  go_wp2
                  go_loopw [6] (fun vi w2 => ∃ i : Nat, k ≤ i ∧ i ≤ m ∧ vi = .int .i64 i ∧ run s isWord i = m ∧ w2 = wr) (fun vi _ => m - (intOf vi).toNat)
                  case atStart => exact ⟨k, Nat.le_refl _, by omega, by first | rfl | go_num, HM.out.symm, rfl⟩
                  case round =>
                    obtain ⟨i, hi1, hi2, rfl, hri, rfl⟩ := hrel
                    have HRI := Lib.hid hri
                    clear hri
                    by_cases his : i < s.size
                    · have hby2 : ∀ h, (s[i]'h).toNat = (byt s i).toNat := fun h => by rw [byt_get s i h]
                      have HLi := Lib.hid (fun w => rletter_at (byt s i) w)
                      have HDi := Lib.hid (fun w => rdigit_at (byt s i) w)
                      have hwo : isWord (byt s i) = (isLet (byt s i) || isDig (byt s i)) := rfl
                      cases hli : isLet (byt s i) with
                      | true =>
                        rw [hli] at HLi hwo
                        have hs2 := run_step (p := isWord) his hwo
                        have HS2 := Lib.hid (hs2.trans HRI.out)
                        have hle2 := run_ge s isWord (i + 1)
                        rw [HS2.out] at hle2
                        obtain ⟨y, hy⟩ : ∃ y, y = (byt s i).toNat := ⟨_, rfl⟩
                        rw [← hy] at hby2 HLi
                        clear hwo hs2 hli hy HDi
                        go_wp2_with (fail)
                        refine (HLi.out _).mono ?_
                        rintro _ wx ⟨rfl, hwx⟩
                        replace hwx := hwx.symm
                        subst hwx
                        go_wp2
                        go_roundw
                        case rel => first | exact ⟨i + 1, by omega, by omega, by go_num, HS2.out, by first | rfl | trivial⟩ | ((repeat apply Exists.intro); exact ⟨⟨i + 1, by omega, by omega, by go_num, HS2.out, by first | rfl | trivial⟩, rfl⟩)
                        case measure => simp [intOf]; omega
                      | false =>
                        rw [hli] at HLi hwo
                        cases hdi : isDig (byt s i) with
                        | true =>
                          rw [hdi] at HDi hwo
                          have hs2 := run_step (p := isWord) his hwo
                          have HS2 := Lib.hid (hs2.trans HRI.out)
                          have hle2 := run_ge s isWord (i + 1)
                          rw [HS2.out] at hle2
                          obtain ⟨y, hy⟩ : ∃ y, y = (byt s i).toNat := ⟨_, rfl⟩
                          rw [← hy] at hby2 HLi HDi
                          clear hwo hs2 hli hdi hy
                          go_wp2_with (fail)
                          refine (HLi.out _).mono ?_
                          rintro _ wx ⟨rfl, hwx⟩
                          replace hwx := hwx.symm
                          subst hwx
                          go_wp2_with (fail)
                          refine (HDi.out _).mono ?_
                          rintro _ wx ⟨rfl, hwx⟩
                          replace hwx := hwx.symm
                          subst hwx
                          go_wp2
                          go_roundw
                          case rel => first | exact ⟨i + 1, by omega, by omega, by go_num, HS2.out, by first | rfl | trivial⟩ | ((repeat apply Exists.intro); exact ⟨⟨i + 1, by omega, by omega, by go_num, HS2.out, by first | rfl | trivial⟩, rfl⟩)
                          case measure => simp [intOf]; omega
                        | false =>
                          rw [hdi] at HDi hwo
                          have him : i = m := (run_stop (p := isWord) his hwo).symm.trans HRI.out
                          subst him
                          obtain ⟨y, hy⟩ : ∃ y, y = (byt s i).toNat := ⟨_, rfl⟩
                          rw [← hy] at hby2 HLi HDi
                          clear hwo hli hdi hy
                          go_wp2_with (fail)
                          refine (HLi.out _).mono ?_
                          rintro _ wx ⟨rfl, hwx⟩
                          replace hwx := hwx.symm
                          subst hwx
                          go_wp2_with (fail)
                          refine (HDi.out _).mono ?_
                          rintro _ wx ⟨rfl, hwx⟩
                          replace hwx := hwx.symm
                          subst hwx
                          go_wp2_with (at_builtin; refine wpList_append_own _ rfl (.tmp 98) (.tmp 106) 31 rfl w.heap.size 41 i0 (.agg #[.int .i64 0, .string { data := #[] }, .int .i64 0, .int .i64 0]) 4 40 Tryd.underlying31 hi0 hz0 hz1 hz2 rfl (by decide) _ p _ rfl (HOWN.out.alloc _) ⟨wr.heap.size, 0, none⟩ 1 1 [.int .i64 0, .string (s.extract k i), .int .i64 0, .int .i64 k] rfl rfl (new_cells _ _ _) (by simp [Value.oneCell']) (by unfold maxLen; omega) (by omega) (by simp; omega) ?_; intro vd wd ownd hgrd _; have OWND := Lib.hid ownd; have OD := Lib.hid (((HO.out.alloc _).grown hgrd (fun q hq => .inr (HOWN.out.lt q hq).1)) : Only (fun _ => False) w wd); clear ownd hgrd)
                          go_roundw
                          case rel =>
                            first | refine ⟨i, f, _, by omega, by first | rfl | go_num, HI4.out, by omega, by rw [List.length_append, ← HP.out, List.length_singleton]; omega, ?_, OD.out⟩ | ((repeat apply Exists.intro); refine ⟨⟨i, f, _, by omega, by first | rfl | go_num, HI4.out, by omega, by rw [List.length_append, ← HP.out, List.length_singleton]; omega, ?_, OD.out⟩, rfl⟩)
                            rw [List.length_append, ← HP.out, List.length_singleton, flatT_append]
                            exact OWND.out
                          case measure => simp [intOf]; omega
                    · have him : i = m := (run_end (p := isWord) (by omega)).symm.trans HRI.out
                      subst him
                      go_wp2_with (at_builtin; refine wpList_append_own _ rfl (.tmp 98) (.tmp 106) 31 rfl w.heap.size 41 i0 (.agg #[.int .i64 0, .string { data := #[] }, .int .i64 0, .int .i64 0]) 4 40 Tryd.underlying31 hi0 hz0 hz1 hz2 rfl (by decide) _ p _ rfl (HOWN.out.alloc _) ⟨wr.heap.size, 0, none⟩ 1 1 [.int .i64 0, .string (s.extract k i), .int .i64 0, .int .i64 k] rfl rfl (new_cells _ _ _) (by simp [Value.oneCell']) (by unfold maxLen; omega) (by omega) (by simp; omega) ?_; intro vd wd ownd hgrd _; have OWND := Lib.hid ownd; have OD := Lib.hid (((HO.out.alloc _).grown hgrd (fun q hq => .inr (HOWN.out.lt q hq).1)) : Only (fun _ => False) w wd); clear ownd hgrd)
                      go_roundw
                      case rel =>
                        first | refine ⟨i, f, _, by omega, by first | rfl | go_num, HI4.out, by omega, by rw [List.length_append, ← HP.out, List.length_singleton]; omega, ?_, OD.out⟩ | ((repeat apply Exists.intro); refine ⟨⟨i, f, _, by omega, by first | rfl | go_num, HI4.out, by omega, by rw [List.length_append, ← HP.out, List.length_singleton]; omega, ?_, OD.out⟩, rfl⟩)
                        rw [List.length_append, ← HP.out, List.length_singleton, flatT_append]
                        exact OWND.out
                      case measure => simp [intOf]; omega
            | false =>
              rw [hl] at HLc
              by_cases h39 : x = 39
              · have hnx := next_is_sym hlt (by rw [← HX.out]; exact h39)
                subst h39
                clear g1 g2 g3 g4
                as_aux_lemma =>
                  by_cases hb1 : k + 1 < s.size ∧ isLet (byt s (k + 1)) = true
                  · obtain ⟨hbs, hlb⟩ := hb1
                    have hbyb : ∀ h, (s[k + 1]'h).toNat = (byt s (k + 1)).toNat := fun h => by rw [byt_get s (k + 1) h]
                    have HLb := Lib.hid (fun w => rletter_at (byt s (k + 1)) w)
                    rw [hlb] at HLb
                    obtain ⟨z, hz⟩ : ∃ z, z = (byt s (k + 1)).toNat := ⟨_, rfl⟩
                    rw [← hz] at hbyb HLb
                    have hne : ((k : Int) + 1 == (s.size : Int)) = false := by simp; omega
                    have hle := run_le (p := isWord) (Nat.le_of_lt hbs)
                    have hge := run_ge s isWord ((k + 1) + 1)
                    rw [run_step hbs (by simp [isWord, hlb])] at hge
                    by_cases h16 : run s isWord (k + 1) - (k + 1) > 16
                    · rw [name_long hbs hlb h16] at hnx
                      have he := items_err HI3.out hnx (by decide)
                      rw [he] at HR
                      obtain ⟨m, hm⟩ : ∃ m, m = run s isWord (k + 1) := ⟨_, rfl⟩
                      rw [← hm] at hle hge h16
                      have HM := Lib.hid hm
                      clear hnx he hm HI3
                      clear hlb hz hl
                      go_wp2_with (fail)
                      refine (HLc.out _).mono ?_
                      rintro _ wx ⟨rfl, hwx⟩
                      replace hwx := hwx.symm
                      subst hwx
                      go_wp2_with (fail)
                      refine (HLb.out _).mono ?_
                      rintro _ wx ⟨rfl, hwx⟩
                      replace hwx := hwx.symm
                      subst hwx
                      go_wp2
                      go_loopw [6] (fun vi w2 => ∃ i : Nat, (k + 1) ≤ i ∧ i ≤ m ∧ vi = .int .i64 i ∧ run s isWord i = m ∧ w2 = wr) (fun vi _ => m - (intOf vi).toNat)
                      case atStart => exact ⟨(k + 1), Nat.le_refl _, by omega, by first | rfl | go_num, HM.out.symm, rfl⟩
                      case round =>
                        obtain ⟨i, hi1, hi2, rfl, hri, rfl⟩ := hrel
                        have HRI := Lib.hid hri
                        clear hri
                        by_cases his : i < s.size
                        · have hby2 : ∀ h, (s[i]'h).toNat = (byt s i).toNat := fun h => by rw [byt_get s i h]
                          have HLi := Lib.hid (fun w => rletter_at (byt s i) w)
                          have HDi := Lib.hid (fun w => rdigit_at (byt s i) w)
                          have hwo : isWord (byt s i) = (isLet (byt s i) || isDig (byt s i)) := rfl
                          cases hli : isLet (byt s i) with
                          | true =>
                            rw [hli] at HLi hwo
                            have hs2 := run_step (p := isWord) his hwo
                            have HS2 := Lib.hid (hs2.trans HRI.out)
                            have hle2 := run_ge s isWord (i + 1)
                            rw [HS2.out] at hle2
                            obtain ⟨y, hy⟩ : ∃ y, y = (byt s i).toNat := ⟨_, rfl⟩
                            rw [← hy] at hby2 HLi
                            clear hwo hs2 hli hy HDi
                            go_wp2_with (fail)
                            refine (HLi.out _).mono ?_
                            rintro _ wx ⟨rfl, hwx⟩
                            replace hwx := hwx.symm
                            subst hwx
                            go_wp2
                            go_roundw
                            case rel => first | exact ⟨i + 1, by omega, by omega, by go_num, HS2.out, by first | rfl | trivial⟩ | ((repeat apply Exists.intro); exact ⟨⟨i + 1, by omega, by omega, by go_num, HS2.out, by first | rfl | trivial⟩, rfl⟩)
                            case measure => simp [intOf]; omega
                          | false =>
                            rw [hli] at HLi hwo
                            cases hdi : isDig (byt s i) with
                            | true =>
                              rw [hdi] at HDi hwo
                              have hs2 := run_step (p := isWord) his hwo
                              have HS2 := Lib.hid (hs2.trans HRI.out)
                              have hle2 := run_ge s isWord (i + 1)
                              rw [HS2.out] at hle2
                              obtain ⟨y, hy⟩ : ∃ y, y = (byt s i).toNat := ⟨_, rfl⟩
                              rw [← hy] at hby2 HLi HDi
                              clear hwo hs2 hli hdi hy
                              go_wp2_with (fail)
                              refine (HLi.out _).mono ?_
                              rintro _ wx ⟨rfl, hwx⟩
                              replace hwx := hwx.symm
                              subst hwx
                              go_wp2_with (fail)
                              refine (HDi.out _).mono ?_
                              rintro _ wx ⟨rfl, hwx⟩
                              replace hwx := hwx.symm
                              subst hwx
                              go_wp2
                              go_roundw
                              case rel => first | exact ⟨i + 1, by omega, by omega, by go_num, HS2.out, by first | rfl | trivial⟩ | ((repeat apply Exists.intro); exact ⟨⟨i + 1, by omega, by omega, by go_num, HS2.out, by first | rfl | trivial⟩, rfl⟩)
                              case measure => simp [intOf]; omega
                            | false =>
                              rw [hdi] at HDi hwo
                              have him : i = m := (run_stop (p := isWord) his hwo).symm.trans HRI.out
                              subst him
                              obtain ⟨y, hy⟩ : ∃ y, y = (byt s i).toNat := ⟨_, rfl⟩
                              rw [← hy] at hby2 HLi HDi
                              clear hwo hli hdi hy
                              go_wp2_with (fail)
                              refine (HLi.out _).mono ?_
                              rintro _ wx ⟨rfl, hwx⟩
                              replace hwx := hwx.symm
                              subst hwx
                              go_wp2_with (fail)
                              refine (HDi.out _).mono ?_
                              rintro _ wx ⟨rfl, hwx⟩
                              replace hwx := hwx.symm
                              subst hwx
                              go_wp2
                              go_ret3
                              exact ⟨_, by rw [HR.out]; rfl, ⟨0, by rw [HR.out]; exact World.ownsRow_nil _ _ _ _⟩, HO.out⟩
                        · have him : i = m := (run_end (p := isWord) (by omega)).symm.trans HRI.out
                          subst him
                          go_wp2
                          go_ret3
                          exact ⟨_, by rw [HR.out]; rfl, ⟨0, by rw [HR.out]; exact World.ownsRow_nil _ _ _ _⟩, HO.out⟩
                    · rw [name_fits hbs hlb h16] at hnx
                      have hI4 := items_step HI3.out hnx (by show 2 ≠ 4; decide)
                      obtain ⟨m, hm⟩ : ∃ m, m = run s isWord (k + 1) := ⟨_, rfl⟩
                      rw [← hm] at hle hge h16 hI4
                      have esz : k + (1 + (s.extract (k + 1) m).size) = m := by rw [ByteArray.size_extract]; omega
                      rw [esz] at hI4
                      have HI4 := Lib.hid hI4
                      have HM := Lib.hid hm
                      have hgg := gap_ge hle
                      clear hnx hI4 hm HI3 esz
                      clear hlb hz hl
                      go_wp2_with (fail)
                      refine (HLc.out _).mono ?_
                      rintro _ wx ⟨rfl, hwx⟩
                      replace hwx := hwx.symm
                      subst hwx
                      go_wp2_with (fail)
                      refine (HLb.out _).mono ?_
                      rintro _ wx ⟨rfl, hwx⟩
                      replace hwx := hwx.symm
                      subst hwx
                      go_wp2
                      go_loopw [6] (fun vi w2 => ∃ i : Nat, (k + 1) ≤ i ∧ i ≤ m ∧ vi = .int .i64 i ∧ run s isWord i = m ∧ w2 = wr) (fun vi _ => m - (intOf vi).toNat)
                      case atStart => exact ⟨(k + 1), Nat.le_refl _, by omega, by first | rfl | go_num, HM.out.symm, rfl⟩
                      case round =>
                        obtain ⟨i, hi1, hi2, rfl, hri, rfl⟩ := hrel
                        have HRI := Lib.hid hri
                        clear hri
                        by_cases his : i < s.size
                        · have hby2 : ∀ h, (s[i]'h).toNat = (byt s i).toNat := fun h => by rw [byt_get s i h]
                          have HLi := Lib.hid (fun w => rletter_at (byt s i) w)
                          have HDi := Lib.hid (fun w => rdigit_at (byt s i) w)
                          have hwo : isWord (byt s i) = (isLet (byt s i) || isDig (byt s i)) := rfl
                          cases hli : isLet (byt s i) with
                          | true =>
                            rw [hli] at HLi hwo
                            have hs2 := run_step (p := isWord) his hwo
                            have HS2 := Lib.hid (hs2.trans HRI.out)
                            have hle2 := run_ge s isWord (i + 1)
                            rw [HS2.out] at hle2
                            obtain ⟨y, hy⟩ : ∃ y, y = (byt s i).toNat := ⟨_, rfl⟩
                            rw [← hy] at hby2 HLi
                            clear hwo hs2 hli hy HDi
                            go_wp2_with (fail)
                            refine (HLi.out _).mono ?_
                            rintro _ wx ⟨rfl, hwx⟩
                            replace hwx := hwx.symm
                            subst hwx
                            go_wp2
                            go_roundw
                            case rel => first | exact ⟨i + 1, by omega, by omega, by go_num, HS2.out, by first | rfl | trivial⟩ | ((repeat apply Exists.intro); exact ⟨⟨i + 1, by omega, by omega, by go_num, HS2.out, by first | rfl | trivial⟩, rfl⟩)
                            case measure => simp [intOf]; omega
                          | false =>
                            rw [hli] at HLi hwo
                            cases hdi : isDig (byt s i) with
                            | true =>
                              rw [hdi] at HDi hwo
                              have hs2 := run_step (p := isWord) his hwo
                              have HS2 := Lib.hid (hs2.trans HRI.out)
                              have hle2 := run_ge s isWord (i + 1)
                              rw [HS2.out] at hle2
                              obtain ⟨y, hy⟩ : ∃ y, y = (byt s i).toNat := ⟨_, rfl⟩
                              rw [← hy] at hby2 HLi HDi
                              clear hwo hs2 hli hdi hy
                              go_wp2_with (fail)
                              refine (HLi.out _).mono ?_
                              rintro _ wx ⟨rfl, hwx⟩
                              replace hwx := hwx.symm
                              subst hwx
                              go_wp2_with (fail)
                              refine (HDi.out _).mono ?_
                              rintro _ wx ⟨rfl, hwx⟩
                              replace hwx := hwx.symm
                              subst hwx
                              go_wp2
                              go_roundw
                              case rel => first | exact ⟨i + 1, by omega, by omega, by go_num, HS2.out, by first | rfl | trivial⟩ | ((repeat apply Exists.intro); exact ⟨⟨i + 1, by omega, by omega, by go_num, HS2.out, by first | rfl | trivial⟩, rfl⟩)
                              case measure => simp [intOf]; omega
                            | false =>
                              rw [hdi] at HDi hwo
                              have him : i = m := (run_stop (p := isWord) his hwo).symm.trans HRI.out
                              subst him
                              obtain ⟨y, hy⟩ : ∃ y, y = (byt s i).toNat := ⟨_, rfl⟩
                              rw [← hy] at hby2 HLi HDi
                              clear hwo hli hdi hy
                              go_wp2_with (fail)
                              refine (HLi.out _).mono ?_
                              rintro _ wx ⟨rfl, hwx⟩
                              replace hwx := hwx.symm
                              subst hwx
                              go_wp2_with (fail)
                              refine (HDi.out _).mono ?_
                              rintro _ wx ⟨rfl, hwx⟩
                              replace hwx := hwx.symm
                              subst hwx
                              go_wp2_with (at_builtin; refine wpList_append_own _ rfl (.tmp 98) (.tmp 106) 31 rfl w.heap.size 41 i0 (.agg #[.int .i64 0, .string { data := #[] }, .int .i64 0, .int .i64 0]) 4 40 Tryd.underlying31 hi0 hz0 hz1 hz2 rfl (by decide) _ p _ rfl (HOWN.out.alloc _) ⟨wr.heap.size, 0, none⟩ 1 1 [.int .i64 2, .string (s.extract (k + 1) i), .int .i64 0, .int .i64 k] rfl rfl (new_cells _ _ _) (by simp [Value.oneCell']) (by unfold maxLen; omega) (by omega) (by simp; omega) ?_; intro vd wd ownd hgrd _; have OWND := Lib.hid ownd; have OD := Lib.hid (((HO.out.alloc _).grown hgrd (fun q hq => .inr (HOWN.out.lt q hq).1)) : Only (fun _ => False) w wd); clear ownd hgrd)
                              go_roundw
                              case rel =>
                                first | refine ⟨i, f, _, by omega, by first | rfl | go_num, HI4.out, by omega, by rw [List.length_append, ← HP.out, List.length_singleton]; omega, ?_, OD.out⟩ | ((repeat apply Exists.intro); refine ⟨⟨i, f, _, by omega, by first | rfl | go_num, HI4.out, by omega, by rw [List.length_append, ← HP.out, List.length_singleton]; omega, ?_, OD.out⟩, rfl⟩)
                                rw [List.length_append, ← HP.out, List.length_singleton, flatT_append]
                                exact OWND.out
                              case measure => simp [intOf]; omega
                        · have him : i = m := (run_end (p := isWord) (by omega)).symm.trans HRI.out
                          subst him
                          go_wp2_with (at_builtin; refine wpList_append_own _ rfl (.tmp 98) (.tmp 106) 31 rfl w.heap.size 41 i0 (.agg #[.int .i64 0, .string { data := #[] }, .int .i64 0, .int .i64 0]) 4 40 Tryd.underlying31 hi0 hz0 hz1 hz2 rfl (by decide) _ p _ rfl (HOWN.out.alloc _) ⟨wr.heap.size, 0, none⟩ 1 1 [.int .i64 2, .string (s.extract (k + 1) i), .int .i64 0, .int .i64 k] rfl rfl (new_cells _ _ _) (by simp [Value.oneCell']) (by unfold maxLen; omega) (by omega) (by simp; omega) ?_; intro vd wd ownd hgrd _; have OWND := Lib.hid ownd; have OD := Lib.hid (((HO.out.alloc _).grown hgrd (fun q hq => .inr (HOWN.out.lt q hq).1)) : Only (fun _ => False) w wd); clear ownd hgrd)
                          go_roundw
                          case rel =>
                            first | refine ⟨i, f, _, by omega, by first | rfl | go_num, HI4.out, by omega, by rw [List.length_append, ← HP.out, List.length_singleton]; omega, ?_, OD.out⟩ | ((repeat apply Exists.intro); refine ⟨⟨i, f, _, by omega, by first | rfl | go_num, HI4.out, by omega, by rw [List.length_append, ← HP.out, List.length_singleton]; omega, ?_, OD.out⟩, rfl⟩)
                            rw [List.length_append, ← HP.out, List.length_singleton, flatT_append]
                            exact OWND.out
                          case measure => simp [intOf]; omega
                  · rw [name_none hb1] at hnx
                    have he := items_err HI3.out hnx (by decide)
                    rw [he] at HR
                    clear hnx he HI3
                    by_cases hbs : k + 1 < s.size
                    · have hlb : isLet (byt s (k + 1)) = false := by
                        cases h : isLet (byt s (k + 1)) with
                        | true => exact absurd ⟨hbs, h⟩ hb1
                        | false => rfl
                      have hbyb : ∀ h, (s[k + 1]'h).toNat = (byt s (k + 1)).toNat := fun h => by rw [byt_get s (k + 1) h]
                      have HLb := Lib.hid (fun w => rletter_at (byt s (k + 1)) w)
                      rw [hlb] at HLb
                      obtain ⟨z, hz⟩ : ∃ z, z = (byt s (k + 1)).toNat := ⟨_, rfl⟩
                      rw [← hz] at hbyb HLb
                      have hne : ((k : Int) + 1 == (s.size : Int)) = false := by simp; omega
                      clear hlb hz hb1 hl
                      go_wp2_with (fail)
                      refine (HLc.out _).mono ?_
                      rintro _ wx ⟨rfl, hwx⟩
                      replace hwx := hwx.symm
                      subst hwx
                      go_wp2_with (fail)
                      refine (HLb.out _).mono ?_
                      rintro _ wx ⟨rfl, hwx⟩
                      replace hwx := hwx.symm
                      subst hwx
                      go_wp2
                      go_ret3
                      exact ⟨_, by rw [HR.out]; rfl, ⟨0, by rw [HR.out]; exact World.ownsRow_nil _ _ _ _⟩, HO.out⟩
                    · have hke : ((k : Int) + 1 == (s.size : Int)) = true := by simp; omega
                      clear hb1 hl
                      go_wp2_with (fail)
                      refine (HLc.out _).mono ?_
                      rintro _ wx ⟨rfl, hwx⟩
                      replace hwx := hwx.symm
                      subst hwx
                      go_wp2
                      go_ret3
                      exact ⟨_, by rw [HR.out]; rfl, ⟨0, by rw [HR.out]; exact World.ownsRow_nil _ _ _ _⟩, HO.out⟩
              · have g5 : ((x : Int) == 39) = false := by simp; omega
                cases hd : isDig (byt s k) with
                | true =>
                  rw [hd] at HDc
                  have hnx := next_is_digit hlt hl hd
                  as_aux_lemma =>
                    have hle := run_le (p := isDig) (Nat.le_of_lt hlt)
                    have hge := run_ge s isDig (k + 1)
                    rw [run_step hlt hd] at hge
                    obtain ⟨m, hm⟩ : ∃ m, m = run s isDig k := ⟨_, rfl⟩
                    rw [← hm] at hle hge
                    have HM := Lib.hid hm
                    clear hm hl hd
                    go_wp2_with (fail)
                    refine (HLc.out _).mono ?_
                    rintro _ wx ⟨rfl, hwx⟩
                    replace hwx := hwx.symm
                    subst hwx
                    go_wp2_with (fail)
                    refine (HDc.out _).mono ?_
                    rintro _ wx ⟨rfl, hwx⟩
                    replace hwx := hwx.symm
                    subst hwx
                    go_wp2
                    go_loopw [6, 11, 12] (fun vi vn vl w2 => ∃ (i n : Nat) (lg : Bool), k ≤ i ∧ i ≤ m ∧ vi = .int .i64 i ∧ vn = .int .i64 n ∧ vl = .bool lg ∧ n ≤ 9223372036854775807 ∧ (lg = true → numVal (mid s k i) > 9223372036854775807) ∧ (lg = false → n = numVal (mid s k i)) ∧ run s isDig i = m ∧ w2 = wr) (fun vi _ _ _ => m - (intOf vi).toNat)
                    case atStart => exact ⟨k, 0, false, Nat.le_refl _, by omega, rfl, rfl, rfl, by omega, fun h => (by cases h), fun _ => (by rw [mid_self]; rfl), HM.out.symm, rfl⟩
                    case round =>
                      obtain ⟨i, n, lg, hi1, hi2, rfl, rfl, rfl, hmax, hlg1, hlg2, hri, rfl⟩ := hrel
                      have HRI := Lib.hid hri
                      clear hri
                      by_cases his : i < s.size
                      · have hby2 : ∀ h, (s[i]'h).toNat = (byt s i).toNat := fun h => by rw [byt_get s i h]
                        have HDi := Lib.hid (fun w => rdigit_at (byt s i) w)
                        cases hdi : isDig (byt s i) with
                        | true =>
                          rw [hdi] at HDi
                          have hs2 := run_step (p := isDig) his hdi
                          have HS2 := Lib.hid (hs2.trans HRI.out)
                          have hle2 := run_ge s isDig (i + 1)
                          rw [HS2.out] at hle2
                          obtain ⟨d, hd9, hdd⟩ : ∃ d : Nat, d ≤ 9 ∧ (byt s i).toNat = 48 + d := by
                            simp [isDig] at hdi
                            exact ⟨(byt s i).toNat - 48, by omega, by omega⟩
                          rw [hdd] at hby2 HDi
                          have hsn : numVal (mid s k (i + 1)) = 10 * numVal (mid s k i) + d := by
                            rw [mid_snoc s k i hi1 his, numVal_snoc, hdd]; omega
                          have hmo := numVal_mid_le s k i (i + 1) (by omega)
                          have HSN := Lib.hid hsn
                          have HMO := Lib.hid hmo
                          have HL1 := Lib.hid hlg1
                          have HL2 := Lib.hid hlg2
                          clear hdd hdi hs2 hsn hmo hlg1 hlg2
                          by_cases hbig2 : 10 * n + d > 9223372036854775807
                          · have hL : numVal (mid s k (i + 1)) > 9223372036854775807 := by
                              cases lg with
                              | true => have := HL1.out rfl; have := HMO.out; omega
                              | false => have := HL2.out rfl; rw [HSN.out]; omega
                            have HL := Lib.hid hL
                            have hkey : (922337203685477580 < (n : Int)) ∨ (¬ (922337203685477580 < (n : Int)) ∧ ((n : Int) == 922337203685477580) = true ∧ 7 < (d : Int)) := by
                              by_cases h : 922337203685477580 < (n : Int)
                              · exact .inl h
                              · exact .inr ⟨h, by simp; omega, by omega⟩
                            clear hL hbig2
                            rcases hkey with hkey | ⟨hkey, hkey2, hkey3⟩
                            all_goals (
                              go_wp2_with (fail)
                              refine (HDi.out _).mono ?_
                              rintro _ wx ⟨rfl, hwx⟩
                              replace hwx := hwx.symm
                              subst hwx
                              go_wp2
                              go_roundw
                              case rel => first | exact ⟨i + 1, n, true, by omega, by omega, by go_num, by rfl, by rfl, by omega, fun _ => HL.out, fun h => (by cases h), HS2.out, by first | rfl | trivial⟩ | ((repeat apply Exists.intro); exact ⟨⟨i + 1, n, true, by omega, by omega, by go_num, by rfl, by rfl, by omega, fun _ => HL.out, fun h => (by cases h), HS2.out, by first | rfl | trivial⟩, rfl⟩)
                              case measure => simp [intOf]; omega)
                          · have hL1 : lg = true → numVal (mid s k (i + 1)) > 9223372036854775807 := fun h => by have := HL1.out h; have := HMO.out; omega
                            have hL2 : lg = false → 10 * n + d = numVal (mid s k (i + 1)) := fun h => by have := HL2.out h; rw [HSN.out]; omega
                            have HK1 := Lib.hid hL1
                            have HK2 := Lib.hid hL2
                            have hkey : ¬ (922337203685477580 < (n : Int)) := by omega
                            have hkey2 : (((n : Int) == 922337203685477580) = false) ∨ (((n : Int) == 922337203685477580) = true ∧ ¬ (7 < (d : Int))) := by
                              by_cases h : n = 922337203685477580
                              · exact .inr ⟨by simp [h], by omega⟩
                              · exact .inl (by simp; omega)
                            clear hL1 hL2
                            rcases hkey2 with hkey2 | ⟨hkey2, hkey3⟩
                            all_goals (
                              go_wp2_with (fail)
                              refine (HDi.out _).mono ?_
                              rintro _ wx ⟨rfl, hwx⟩
                              replace hwx := hwx.symm
                              subst hwx
                              go_wp2
                              go_roundw
                              case rel => first | exact ⟨i + 1, 10 * n + d, lg, by omega, by omega, by go_num, by congr 1; omega, by rfl, by omega, HK1.out, HK2.out, HS2.out, by first | rfl | trivial⟩ | ((repeat apply Exists.intro); exact ⟨⟨i + 1, 10 * n + d, lg, by omega, by omega, by go_num, by congr 1; omega, by rfl, by omega, HK1.out, HK2.out, HS2.out, by first | rfl | trivial⟩, rfl⟩)
                              case measure => simp [intOf]; omega)
                        | false =>
                          rw [hdi] at HDi
                          have him : i = m := (run_stop (p := isDig) his hdi).symm.trans HRI.out
                          subst him
                          obtain ⟨y, hy⟩ : ∃ y, y = (byt s i).toNat := ⟨_, rfl⟩
                          rw [← hy] at hby2 HDi
                          clear hdi hy
                          go_wp2_with (fail)
                          refine (HDi.out _).mono ?_
                          rintro _ wx ⟨rfl, hwx⟩
                          replace hwx := hwx.symm
                          subst hwx
                          by_cases h0 : x = 48 ∧ k + 1 < i
                          · obtain ⟨rfl, h1⟩ := h0
                            have hnR : numR s k = (0, 0, 6) := by unfold numR; rw [if_pos ⟨HX.out.symm, by rw [← HM.out]; exact h1⟩]
                            rw [hnR] at hnx
                            have he := items_err HI3.out hnx (by decide)
                            rw [he] at HR
                            clear hnx he HI3 hnR hlg1 hlg2
                            go_wp2
                            go_ret3
                            exact ⟨_, by rw [HR.out]; rfl, ⟨0, by rw [HR.out]; exact World.ownsRow_nil _ _ _ _⟩, HO.out⟩
                          · have h0' : ¬ ((byt s k).toNat = 48 ∧ k + 1 < run s isDig k) := by rw [← HX.out, ← HM.out]; exact h0
                            have key : (((x : Int) == 48) = false) ∨ (((x : Int) == 48) = true ∧ ¬ (1 < (i : Int) - (k : Int))) := by
                              by_cases h : x = 48
                              · exact .inr ⟨by simp [h], by omega⟩
                              · exact .inl (by simp; omega)
                            cases lg with
                            | true =>
                              have hnR : numR s k = (0, 0, 2) := by unfold numR; rw [if_neg h0', if_pos (by rw [← HM.out]; exact hlg1 rfl)]
                              rw [hnR] at hnx
                              have he := items_err HI3.out hnx (by decide)
                              rw [he] at HR
                              clear hnx he HI3 hnR hlg1 hlg2 h0 h0'
                              rcases key with key | ⟨key, key2⟩
                              all_goals (
                                go_wp2
                                go_ret3
                                exact ⟨_, by rw [HR.out]; rfl, ⟨0, by rw [HR.out]; exact World.ownsRow_nil _ _ _ _⟩, HO.out⟩)
                            | false =>
                              have hv := hlg2 rfl
                              have hnR : numR s k = (n, i - k, 0) := by
                                unfold numR
                                rw [if_neg h0', ← HM.out, ← hv, if_neg (by omega)]
                              rw [hnR] at hnx
                              have hI4 := items_step HI3.out hnx (by show 1 ≠ 4; decide)
                              rw [show k + (i - k) = i by omega] at hI4
                              have HI4 := Lib.hid hI4
                              have hgg := gap_ge hle
                              clear hnx hI4 HI3 hnR hlg1 hlg2 h0 h0' hv
                              rcases key with key | ⟨key, key2⟩
                              all_goals (
                                go_wp2_with (at_builtin; refine wpList_append_own _ rfl (.tmp 152) (.tmp 156) 31 rfl w.heap.size 41 i0 (.agg #[.int .i64 0, .string { data := #[] }, .int .i64 0, .int .i64 0]) 4 40 Tryd.underlying31 hi0 hz0 hz1 hz2 rfl (by decide) _ p _ rfl (HOWN.out.alloc _) ⟨wr.heap.size, 0, none⟩ 1 1 [.int .i64 1, .string { data := #[] }, .int .i64 n, .int .i64 k] rfl rfl (new_cells _ _ _) (by simp [Value.oneCell']) (by unfold maxLen; omega) (by omega) (by simp; omega) ?_; intro vd wd ownd hgrd _; have OWND := Lib.hid ownd; have OD := Lib.hid (((HO.out.alloc _).grown hgrd (fun q hq => .inr (HOWN.out.lt q hq).1)) : Only (fun _ => False) w wd); clear ownd hgrd)
                                go_roundw
                                case rel =>
                                  first | refine ⟨i, f, _, by omega, by first | rfl | go_num, HI4.out, by omega, by rw [List.length_append, ← HP.out, List.length_singleton]; omega, ?_, OD.out⟩ | ((repeat apply Exists.intro); refine ⟨⟨i, f, _, by omega, by first | rfl | go_num, HI4.out, by omega, by rw [List.length_append, ← HP.out, List.length_singleton]; omega, ?_, OD.out⟩, rfl⟩)
                                  rw [List.length_append, ← HP.out, List.length_singleton, flatT_append]
                                  exact OWND.out
                                case measure => simp [intOf]; omega)
                      · have him : i = m := (run_end (p := isDig) (by omega)).symm.trans HRI.out
                        subst him
                        by_cases h0 : x = 48 ∧ k + 1 < i
                        · obtain ⟨rfl, h1⟩ := h0
                          have hnR : numR s k = (0, 0, 6) := by unfold numR; rw [if_pos ⟨HX.out.symm, by rw [← HM.out]; exact h1⟩]
                          rw [hnR] at hnx
                          have he := items_err HI3.out hnx (by decide)
                          rw [he] at HR
                          clear hnx he HI3 hnR hlg1 hlg2
                          go_wp2
                          go_ret3
                          exact ⟨_, by rw [HR.out]; rfl, ⟨0, by rw [HR.out]; exact World.ownsRow_nil _ _ _ _⟩, HO.out⟩
                        · have h0' : ¬ ((byt s k).toNat = 48 ∧ k + 1 < run s isDig k) := by rw [← HX.out, ← HM.out]; exact h0
                          have key : (((x : Int) == 48) = false) ∨ (((x : Int) == 48) = true ∧ ¬ (1 < (i : Int) - (k : Int))) := by
                            by_cases h : x = 48
                            · exact .inr ⟨by simp [h], by omega⟩
                            · exact .inl (by simp; omega)
                          cases lg with
                          | true =>
                            have hnR : numR s k = (0, 0, 2) := by unfold numR; rw [if_neg h0', if_pos (by rw [← HM.out]; exact hlg1 rfl)]
                            rw [hnR] at hnx
                            have he := items_err HI3.out hnx (by decide)
                            rw [he] at HR
                            clear hnx he HI3 hnR hlg1 hlg2 h0 h0'
                            rcases key with key | ⟨key, key2⟩
                            all_goals (
                              go_wp2
                              go_ret3
                              exact ⟨_, by rw [HR.out]; rfl, ⟨0, by rw [HR.out]; exact World.ownsRow_nil _ _ _ _⟩, HO.out⟩)
                          | false =>
                            have hv := hlg2 rfl
                            have hnR : numR s k = (n, i - k, 0) := by
                              unfold numR
                              rw [if_neg h0', ← HM.out, ← hv, if_neg (by omega)]
                            rw [hnR] at hnx
                            have hI4 := items_step HI3.out hnx (by show 1 ≠ 4; decide)
                            rw [show k + (i - k) = i by omega] at hI4
                            have HI4 := Lib.hid hI4
                            have hgg := gap_ge hle
                            clear hnx hI4 HI3 hnR hlg1 hlg2 h0 h0' hv
                            rcases key with key | ⟨key, key2⟩
                            all_goals (
                              go_wp2_with (at_builtin; refine wpList_append_own _ rfl (.tmp 152) (.tmp 156) 31 rfl w.heap.size 41 i0 (.agg #[.int .i64 0, .string { data := #[] }, .int .i64 0, .int .i64 0]) 4 40 Tryd.underlying31 hi0 hz0 hz1 hz2 rfl (by decide) _ p _ rfl (HOWN.out.alloc _) ⟨wr.heap.size, 0, none⟩ 1 1 [.int .i64 1, .string { data := #[] }, .int .i64 n, .int .i64 k] rfl rfl (new_cells _ _ _) (by simp [Value.oneCell']) (by unfold maxLen; omega) (by omega) (by simp; omega) ?_; intro vd wd ownd hgrd _; have OWND := Lib.hid ownd; have OD := Lib.hid (((HO.out.alloc _).grown hgrd (fun q hq => .inr (HOWN.out.lt q hq).1)) : Only (fun _ => False) w wd); clear ownd hgrd)
                              go_roundw
                              case rel =>
                                first | refine ⟨i, f, _, by omega, by first | rfl | go_num, HI4.out, by omega, by rw [List.length_append, ← HP.out, List.length_singleton]; omega, ?_, OD.out⟩ | ((repeat apply Exists.intro); refine ⟨⟨i, f, _, by omega, by first | rfl | go_num, HI4.out, by omega, by rw [List.length_append, ← HP.out, List.length_singleton]; omega, ?_, OD.out⟩, rfl⟩)
                                rw [List.length_append, ← HP.out, List.length_singleton, flatT_append]
                                exact OWND.out
                              case measure => simp [intOf]; omega)
                | false =>
                  rw [hd] at HDc
                  have hnx := next_is_mark hlt hl hd (by rw [← HX.out]; exact h39)
                  as_aux_lemma =>
                    have hmn : markN ((bys s).drop k) = match markAt ((bys s).drop k) with | some m => m.length | none => 0 := rfl
                    cases hq : markAt ((bys s).drop k) with
                    | none =>
                      rw [hq] at hnx hmn
                      have he := items_err HI3.out hnx (by decide)
                      rw [he] at HR
                      have HMK := Lib.hid (fun w => mark_at s hs k hlt w)
                      rw [hmn] at HMK
                      clear hnx he HI3 hl hd hq hmn
                      go_wp2_with (fail)
                      refine (HLc.out _).mono ?_
                      rintro _ wx ⟨rfl, hwx⟩
                      replace hwx := hwx.symm
                      subst hwx
                      go_wp2_with (fail)
                      refine (HDc.out _).mono ?_
                      rintro _ wx ⟨rfl, hwx⟩
                      replace hwx := hwx.symm
                      subst hwx
                      go_wp2_with (fail)
                      refine (HMK.out _).mono ?_
                      rintro _ wx ⟨rfl, ox⟩
                      have HO := Lib.hid (HO.out.trans ox (fun _ _ h => h))
                      clear ox
                      go_wp2
                      go_ret3
                      exact ⟨_, by rw [HR.out]; rfl, ⟨0, by rw [HR.out]; exact World.ownsRow_nil _ _ _ _⟩, HO.out⟩
                    | some mm =>
                      obtain ⟨_, hpre, hm1⟩ := markAt_some hq
                      rw [hq] at hnx hmn
                      have hI4 := items_step HI3.out hnx (by show 3 ≠ 4; decide)
                      have hlen := hpre.length_le
                      rw [List.length_drop, bys_length] at hlen
                      have hext : mk mm = s.extract k (k + mm.length) := by
                        rw [extract_mid]
                        unfold mk mid
                        rw [show k + mm.length - k = mm.length by omega, ← List.prefix_iff_eq_take.1 hpre]
                      have HEX := Lib.hid hext
                      have HMK := Lib.hid (fun w => mark_at s hs k hlt w)
                      rw [hmn] at HMK
                      obtain ⟨n, hn⟩ : ∃ n, n = mm.length := ⟨_, rfl⟩
                      have HI4 := Lib.hid hI4
                      simp only at HMK
                      rw [← hn] at HMK HI4 hlen hm1 HEX
                      have hgg := gap_ge (s := s) (k := k + n) (by omega)
                      have hn0 : ((n : Int) == 0) = false := by simp; omega
                      clear hnx HI3 hl hd hq hmn hI4 hpre hext hn
                      go_wp2_with (fail)
                      refine (HLc.out _).mono ?_
                      rintro _ wx ⟨rfl, hwx⟩
                      replace hwx := hwx.symm
                      subst hwx
                      go_wp2_with (fail)
                      refine (HDc.out _).mono ?_
                      rintro _ wx ⟨rfl, hwx⟩
                      replace hwx := hwx.symm
                      subst hwx
                      go_wp2_with (fail)
                      refine (HMK.out _).mono ?_
                      rintro _ wx ⟨rfl, ox⟩
                      have HO' := Lib.hid (HO.out.trans ox (fun _ _ h => h))
                      have HOWN' := Lib.hid (ownsRow_only HOWN.out ox (fun _ _ => id))
                      have hszx := HO'.out.size
                      clear ox HO HOWN
                      have HO := HO'
                      have HOWN := HOWN'
                      clear HO' HOWN'
                      rw [HEX.out] at HI4
                      go_wp2_with (at_builtin; refine wpList_append_own _ rfl (.tmp 167) (.tmp 174) 31 rfl w.heap.size 41 i0 (.agg #[.int .i64 0, .string { data := #[] }, .int .i64 0, .int .i64 0]) 4 40 Tryd.underlying31 hi0 hz0 hz1 hz2 rfl (by decide) _ p _ rfl (HOWN.out.alloc _) ⟨wx.heap.size, 0, none⟩ 1 1 [.int .i64 3, .string (s.extract k (k + n)), .int .i64 0, .int .i64 k] rfl rfl (new_cells _ _ _) (by simp [Value.oneCell']) (by unfold maxLen; omega) (by omega) (by simp; omega) ?_; intro vd wd ownd hgrd _; have OWND := Lib.hid ownd; have OD := Lib.hid (((HO.out.alloc _).grown hgrd (fun q hq => .inr (HOWN.out.lt q hq).1)) : Only (fun _ => False) w wd); clear ownd hgrd)
                      go_roundw
                      case rel =>
                        first | refine ⟨k + n, f, _, by omega, by first | rfl | go_num, HI4.out, by omega, by rw [List.length_append, ← HP.out, List.length_singleton]; omega, ?_, OD.out⟩ | ((repeat apply Exists.intro); refine ⟨⟨k + n, f, _, by omega, by first | rfl | go_num, HI4.out, by omega, by rw [List.length_append, ← HP.out, List.length_singleton]; omega, ?_, OD.out⟩, rfl⟩)
                        rw [List.length_append, ← HP.out, List.length_singleton, flatT_append]
                        exact OWND.out
                      case measure => simp [intOf]; omega
      · obtain rfl : k = s.size := by omega
        have HI2 := HIT.out
        rw [gap_end rfl] at HI2 hf
        obtain ⟨f, rfl⟩ : ∃ f', f = f' + 1 := ⟨f - 1, by omega⟩
        have he := items_end HI2
        rw [he] at HR
        clear HI2 HIT he
        go_wp2_with (at_builtin; refine wpList_append_own _ rfl (.tmp 176) (.tmp 180) 31 rfl w.heap.size 41 i0 (.agg #[.int .i64 0, .string { data := #[] }, .int .i64 0, .int .i64 0]) 4 40 Tryd.underlying31 hi0 hz0 hz1 hz2 rfl (by decide) _ p _ rfl (HOWN.out.alloc _) ⟨wr.heap.size, 0, none⟩ 1 1 [.int .i64 4, .string { data := #[] }, .int .i64 0, .int .i64 s.size] rfl rfl (new_cells _ _ _) (by simp [Value.oneCell']) (by unfold maxLen; omega) (by omega) (by simp; omega) ?_; intro vd wd ownd hgrd _; have OWND := Lib.hid ownd; have OD := Lib.hid (((HO.out.alloc _).grown hgrd (fun q hq => .inr (HOWN.out.lt q hq).1)) : Only (fun _ => False) w wd); clear ownd hgrd)
        go_ret3
        refine ⟨_, by rw [HR.out]; rfl, ⟨p + 1, ?_⟩, OD.out⟩
        rw [HR.out]
        simp only [flatT_append]
        exact OWND.out

end Go.Proofs.YtmoemnfflbielaaDoor
