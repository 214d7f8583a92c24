/- The contracts of the scanner's gap, name and number. -/
import Derived.Test.YtmoemnfflbielaaDoorT1
import Derived.Test.YtmoemnfflbielaaDoorT2
import Derived.Outline
import Derived.Shelf.Abstract
namespace Go.Proofs.YtmoemnfflbielaaDoor
open Go.RowKit Go.Gav Go.BigFrame Go.Shelf

set_option maxRecDepth 100000 in
set_option maxHeartbeats 1000000 in
theorem gap_at (s : ByteArray) (hs : s.size ≤ 4000000000000000000) (k0 : Nat) (hk : k0 ≤ s.size) (w : World) :
    Calls Tryd.prog 18 #[.string s, .int .i64 k0] w fun e w' => e = .returned (.int .i64 (gapTo s k0)) ∧ w' = w := by
  obtain ⟨n, hn⟩ : ∃ n, n = gapTo s k0 := ⟨_, rfl⟩
  rw [← hn]
  have HN := Lib.hid hn
  clear hn
  go_enter Tryd.func18, Tryd.ntmps18
  go_wp2
  go_loopw [1] (fun vi wr => ∃ k : Nat, k ≤ s.size ∧ vi = .int .i64 k ∧ n = gapTo s k ∧ wr = w) (fun vi _ => s.size - (intOf vi).toNat)
  case atStart => exact ⟨k0, hk, rfl, HN.out, rfl⟩
  case round =>
    obtain ⟨k, hk2, rfl, hr, rfl⟩ := hrel
    have HR := Lib.hid hr
    clear hr
    by_cases hlt : k < s.size
    · have hby : ∀ h, (s[k]'h).toNat = (byt s k).toNat := fun h => by rw [byt_get s k h]
      obtain ⟨x, hx⟩ : ∃ x, x = (byt s k).toNat := ⟨_, rfl⟩
      rw [← hx] at hby
      have HX := Lib.hid hx
      clear hx
      by_cases hb : x = 32 ∨ x = 9 ∨ x = 10
      · have hbl : isBlank (byt s k) = true := by
          unfold isBlank; rw [← HX.out]; simpa [or_assoc] using hb
        have HS := Lib.hid (HR.out.trans (gap_blank hlt hbl))
        clear hbl
        by_cases h1 : x = 32
        · subst h1
          clear hb
          go_wp2
          go_roundw
          case rel => exact ⟨k + 1, by omega, by go_num, HS.out, by first | rfl | trivial⟩
          case measure => simp [intOf]; omega
        · by_cases h2 : x = 9
          · subst h2
            clear hb
            go_wp2
            go_roundw
            case rel => exact ⟨k + 1, by omega, by go_num, HS.out, by first | rfl | trivial⟩
            case measure => simp [intOf]; omega
          · obtain rfl : x = 10 := by omega
            clear hb
            go_wp2
            go_roundw
            case rel => exact ⟨k + 1, by omega, by go_num, HS.out, by first | rfl | trivial⟩
            case measure => simp [intOf]; omega
      · have hbl : isBlank (byt s k) = false := by
          unfold isBlank; rw [← HX.out]; simpa [or_assoc, and_assoc] using hb
        by_cases h3 : x = 35
        · have hc := gap_hash hlt (by rw [← HX.out]; exact h3)
          have hst := run_step (p := notNl) hlt (by unfold notNl; rw [← HX.out, h3]; rfl)
          have hge := run_ge s notNl (k + 1)
          have hle := run_le (p := notNl) hk2
          rw [hst] at hge
          obtain ⟨m, hm⟩ : ∃ m, m = run s notNl k := ⟨_, rfl⟩
          have HS := Lib.hid (HR.out.trans hc)
          rw [← hm] at HS hge hle
          have HM := Lib.hid hm
          subst h3
          clear hb hbl hc hst hm
          go_wp2_with (fail)
          refine (while_at s hs k hk2 21 notNl (enters_of Tryd.func21 (by kernel_rfl) rfl) (fun c w => notNl_at c w) _).mono ?_
          rintro e w2 ⟨rfl, rfl⟩
          rw [← HM.out]
          go_wp2
          go_roundw
          case rel => exact ⟨m, by omega, by go_num, HS.out, by first | rfl | trivial⟩
          case measure => simp [intOf]; omega
        · have HS := Lib.hid (HR.out.trans (gap_stop hlt hbl (by rw [← HX.out]; exact h3)))
          have g1 : ((x : Int) == 32) = false := by simp; omega
          have g2 : ((x : Int) == 9) = false := by simp; omega
          have g3 : ((x : Int) == 10) = false := by simp; omega
          have g4 : ((x : Int) == 35) = false := by simp; omega
          clear hb hbl h3
          go_wp2
          go_ret
          exact ⟨by rw [HS.out]; rfl, rfl⟩
    · have HS := Lib.hid (HR.out.trans (gap_end (by omega)))
      go_wp2
      go_ret
      exact ⟨by rw [HS.out]; rfl, rfl⟩

/-- What name answers. -/
def nameR (s : ByteArray) (k : Nat) : ByteArray × Nat :=
  if k < s.size ∧ isLet (byt s k) = true then (if run s isWord k - k > 16 then (ByteArray.empty, 9) else (s.extract k (run s isWord k), 0)) else (ByteArray.empty, 5)

set_option maxRecDepth 100000 in
set_option maxHeartbeats 1000000 in
theorem name_at (s : ByteArray) (hs : s.size ≤ 4000000000000000000) (k : Nat) (hk : k ≤ s.size) (w : World) :
    Calls Tryd.prog 23 #[.string s, .int .i64 k] w fun e w' => e = .returned (.tuple #[.string (nameR s k).1, .int .i64 (nameR s k).2]) ∧ w' = w := by
  obtain ⟨r, hr⟩ : ∃ r, r = nameR s k := ⟨_, rfl⟩
  rw [← hr]
  unfold nameR at hr
  by_cases hlt : k < s.size
  · have hby : ∀ h, (s[k]'h).toNat = (byt s k).toNat := fun h => by rw [byt_get s k h]
    obtain ⟨c, hc⟩ : ∃ c, c = byt s k := ⟨_, rfl⟩
    rw [← hc] at hby hr
    cases hp : isLet c with
    | true =>
      rw [if_pos ⟨hlt, hp⟩] at hr
      have HGP := fun w => letter_at c w
      rw [hp] at HGP
      have HG := Lib.hid HGP
      have hle := run_le (p := isWord) hk
      have hge := run_ge s isWord k
      obtain ⟨m, hm⟩ : ∃ m, m = run s isWord k := ⟨_, rfl⟩
      rw [← hm] at hr hle hge
      have HM := Lib.hid hm
      clear hp HGP hc hm
      by_cases h16 : m - k > 16
      · rw [if_pos h16] at hr
        have HR := Lib.hid hr
        clear hr
        go_enter Tryd.func23, Tryd.ntmps23
        go_wp2_with (fail)
        refine (HG.out _).mono ?_
        rintro e w2 ⟨rfl, rfl⟩
        go_wp2_with (fail)
        refine (while_at s hs k hk 27 isWord (enters_of Tryd.func27 (by kernel_rfl) rfl) (fun c w => word_at c w) _).mono ?_
        rintro e w2 ⟨rfl, rfl⟩
        rw [← HM.out]
        go_wp2
        go_ret2
        exact ⟨by rw [HR.out]; rfl, rfl⟩
      · rw [if_neg h16] at hr
        have HR := Lib.hid hr
        clear hr
        go_enter Tryd.func23, Tryd.ntmps23
        go_wp2_with (fail)
        refine (HG.out _).mono ?_
        rintro e w2 ⟨rfl, rfl⟩
        go_wp2_with (fail)
        refine (while_at s hs k hk 27 isWord (enters_of Tryd.func27 (by kernel_rfl) rfl) (fun c w => word_at c w) _).mono ?_
        rintro e w2 ⟨rfl, rfl⟩
        rw [← HM.out]
        go_wp2
        go_ret2
        exact ⟨by rw [HR.out]; rfl, rfl⟩
    | false =>
      rw [if_neg (fun h => by rw [hp] at h; cases h.2)] at hr
      have HGP := fun w => letter_at c w
      rw [hp] at HGP
      have HG := Lib.hid HGP
      have HR := Lib.hid hr
      clear hp HGP hc hr
      go_enter Tryd.func23, Tryd.ntmps23
      go_wp2_with (fail)
      refine (HG.out _).mono ?_
      rintro e w2 ⟨rfl, rfl⟩
      go_wp2
      go_ret2
      exact ⟨by rw [HR.out]; rfl, rfl⟩
  · rw [if_neg (fun h => hlt h.1)] at hr
    have HR := Lib.hid hr
    clear hr
    go_enter Tryd.func23, Tryd.ntmps23
    go_wp2
    go_ret2
    exact ⟨by rw [HR.out]; rfl, rfl⟩

/-- What number answers. -/
def numR (s : ByteArray) (k : Nat) : Nat × Nat × Nat :=
  if (byt s k).toNat = 48 ∧ k + 1 < run s isDig k then (0, 0, 6)
  else if numVal (mid s k (run s isDig k)) > 9223372036854775807 then (0, 0, 2)
  else (numVal (mid s k (run s isDig k)), run s isDig k - k, 0)

set_option maxRecDepth 100000 in
set_option maxHeartbeats 1000000 in
theorem number_at (s : ByteArray) (hs : s.size ≤ 4000000000000000000) (k : Nat) (hlt : k < s.size) (hd : isDig (byt s k) = true) (w : World) :
    Calls Tryd.prog 25 #[.string s, .int .i64 k] w fun e w' => e = .returned (.tuple #[.int .i64 (numR s k).1, .int .i64 (numR s k).2.1, .int .i64 (numR s k).2.2]) ∧ w' = w := by
  obtain ⟨r, hr⟩ : ∃ r, r = numR s k := ⟨_, rfl⟩
  rw [← hr]
  unfold numR at hr
  have hby : ∀ h, (s[k]'h).toNat = (byt s k).toNat := fun h => by rw [byt_get s k h]
  obtain ⟨x, hx⟩ : ∃ x, x = (byt s k).toNat := ⟨_, rfl⟩
  rw [← hx] at hby hr
  have hle := run_le (p := isDig) (Nat.le_of_lt hlt)
  have hge := run_ge s isDig (k + 1)
  rw [run_step hlt hd] at hge
  obtain ⟨m, hm⟩ : ∃ m, m = run s isDig k := ⟨_, rfl⟩
  rw [← hm] at hr hle hge
  have HM := Lib.hid hm
  clear hx hm hd
  by_cases h0 : x = 48 ∧ k + 1 < m
  · rw [if_pos h0] at hr
    obtain ⟨rfl, h1⟩ := h0
    have HR := Lib.hid hr
    clear hr
    go_enter Tryd.func25, Tryd.ntmps25
    go_wp2_with (fail)
    refine (while_at s hs k (by omega) 24 isDig (enters_of Tryd.func24 (by kernel_rfl) rfl) (fun c w => digit_at c w) _).mono ?_
    rintro e w2 ⟨rfl, rfl⟩
    rw [← HM.out]
    go_wp2
    go_ret3
    exact ⟨by rw [HR.out]; rfl, rfl⟩
  · rw [if_neg h0] at hr
    have HR := Lib.hid hr
    have key : (((x : Int) == 48) = false) ∨ (((x : Int) == 48) = true ∧ ¬ ((k : Int) + 1 < (m : Int))) := by
      by_cases h : x = 48
      · exact .inr ⟨by simp [h], by omega⟩
      · exact .inl (by simp; omega)
    clear hr h0
    go_enter Tryd.func25, Tryd.ntmps25
    go_wp2_with (fail)
    refine (while_at s hs k (by omega) 24 isDig (enters_of Tryd.func24 (by kernel_rfl) rfl) (fun c w => digit_at c w) _).mono ?_
    rintro e w2 ⟨rfl, rfl⟩
    rw [← HM.out]
    have hgen : ∀ i, k ≤ i → i < m → i < s.size ∧ ∃ d : Nat, d ≤ 9 ∧ (byt s i).toNat = 48 + d := fun i h1 h2 => by
      obtain ⟨h3, h4⟩ := in_run (p := isDig) h1 (by rw [← HM.out]; exact h2)
      refine ⟨h3, (byt s i).toNat - 48, ?_⟩
      simp [isDig] at h4
      omega
    have HGEN := Lib.hid hgen
    clear hgen
    rcases key with key | ⟨key, key2⟩
    all_goals (
      go_wp2
      go_loopw [8, 9] (fun vn vi wr => ∃ i : Nat, k ≤ i ∧ i ≤ m ∧ vi = .int .i64 i ∧ vn = .int .i64 (numVal (mid s k i)) ∧ numVal (mid s k i) ≤ 9223372036854775807 ∧ wr = w2) (fun _ vi _ => m - (intOf vi).toNat)
      case atStart => exact ⟨k, Nat.le_refl _, by omega, rfl, by rw [mid_self]; rfl, by rw [mid_self]; simp [numVal], rfl⟩
      case round =>
        obtain ⟨i, hi1, hi2, rfl, rfl, hmax, rfl⟩ := hrel
        by_cases hlt2 : i < m
        · obtain ⟨his, d, hd9, hdd⟩ := HGEN.out i hi1 hlt2
          have hby2 : ∀ h, (s[i]'h).toNat = 48 + d := fun h => by rw [byt_get s i h, hdd]
          have hsn : numVal (mid s k (i + 1)) = 10 * numVal (mid s k i) + d := by
            rw [mid_snoc s k i hi1 his, numVal_snoc, hdd]; omega
          have HSN := Lib.hid hsn
          have hmo := Lib.hid (numVal_mid_le s k (i + 1) m (by omega))
          obtain ⟨n, hn⟩ : ∃ n, n = numVal (mid s k i) := ⟨_, rfl⟩
          rw [← hn] at hmax ⊢ HSN
          clear hsn hdd hn
          go_wp2
          · have h := ‹(9223372036854775807 - (48 + (d : Int) - 48)) / 10 < (n : Int)›
            have hbig : numVal (mid s k m) > 9223372036854775807 := by
              have h2 := hmo.out
              rw [HSN.out] at h2
              omega
            go_ret3
            exact ⟨by rw [HR.out, if_pos hbig]; rfl, rfl⟩
          · have h := ‹(n : Int) ≤ (9223372036854775807 - (48 + (d : Int) - 48)) / 10›
            exact ⟨⟨i + 1, by omega, by omega, by go_num, by rw [HSN.out]; congr 1; omega, by rw [HSN.out]; omega, trivial⟩, by simp [intOf]; omega⟩
        · obtain rfl : i = m := by omega
          rw [if_neg (by omega)] at HR
          obtain ⟨n, hn⟩ : ∃ n, n = numVal (mid s k i) := ⟨_, rfl⟩
          rw [← hn] at hmax ⊢ HR
          have e : ((i - k : Nat) : Int) = (i : Int) - (k : Int) := by omega
          have E := Lib.hid e
          clear e hn
          go_wp2
          go_ret3
          refine ⟨?_, rfl⟩
          rw [HR.out]
          simp [E.out])

end Go.Proofs.YtmoemnfflbielaaDoor
