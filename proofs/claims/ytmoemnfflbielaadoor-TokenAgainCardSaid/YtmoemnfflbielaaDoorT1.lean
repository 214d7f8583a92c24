/- The contracts of the scanner's tests on bytes, and of while. -/
import Derived.Test.YtmoemnfflbielaaDoorChecked
import Derived.Test.YtmoemnfflbielaaDoorRnd
import Derived.Test.YtmoemnfflbielaaDoorRng
import Derived.Test.YtmoemnfflbielaaDoorT0
import Derived.WalkLawsBesides
import Derived.Lib.Hide
namespace Go.Proofs.YtmoemnfflbielaaDoor
open Go.RowKit Go.Gav Go.BigFrame

theorem letter_at (c : UInt8) (w : World) : Calls Tryd.prog 22 #[.int .u8 c.toNat] w fun e w' => e = .returned (.bool (isLet c)) ∧ w' = w := by
  by_cases h : 97 ≤ c.toNat
  · by_cases h2 : c.toNat ≤ 122
    · have e : isLet c = true := by simp [isLet, h, h2]
      have E := Lib.hid e
      clear e
      go_enter Tryd.func22, Tryd.ntmps22
      go_wp2
      go_ret
      exact ⟨by rw [E.out]; simp; omega, rfl⟩
    · have e : isLet c = false := by simp [isLet, h, h2]
      have E := Lib.hid e
      clear e
      go_enter Tryd.func22, Tryd.ntmps22
      go_wp2
      go_ret
      exact ⟨by rw [E.out]; simp; omega, rfl⟩
  · have e : isLet c = false := by simp [isLet, h]
    have E := Lib.hid e
    clear e
    go_enter Tryd.func22, Tryd.ntmps22
    go_wp2
    go_ret
    exact ⟨by rw [E.out]; rfl, rfl⟩

theorem digit_at (c : UInt8) (w : World) : Calls Tryd.prog 24 #[.int .u8 c.toNat] w fun e w' => e = .returned (.bool (isDig c)) ∧ w' = w := by
  by_cases h : 48 ≤ c.toNat
  · by_cases h2 : c.toNat ≤ 57
    · have e : isDig c = true := by simp [isDig, h, h2]
      have E := Lib.hid e
      clear e
      go_enter Tryd.func24, Tryd.ntmps24
      go_wp2
      go_ret
      exact ⟨by rw [E.out]; simp; omega, rfl⟩
    · have e : isDig c = false := by simp [isDig, h, h2]
      have E := Lib.hid e
      clear e
      go_enter Tryd.func24, Tryd.ntmps24
      go_wp2
      go_ret
      exact ⟨by rw [E.out]; simp; omega, rfl⟩
  · have e : isDig c = false := by simp [isDig, h]
    have E := Lib.hid e
    clear e
    go_enter Tryd.func24, Tryd.ntmps24
    go_wp2
    go_ret
    exact ⟨by rw [E.out]; rfl, rfl⟩

theorem word_at (c : UInt8) (w : World) : Calls Tryd.prog 27 #[.int .u8 c.toNat] w fun e w' => e = .returned (.bool (isWord c)) ∧ w' = w := by
  have E := Lib.hid (show isWord c = (isLet c || isDig c) from rfl)
  cases h : isLet c with
  | true =>
    rw [h] at E
    have HL := fun w => letter_at c w
    rw [h] at HL
    go_enter Tryd.func27, Tryd.ntmps27
    go_wp2_with (fail)
    refine (HL _).mono ?_
    rintro e w2 ⟨rfl, rfl⟩
    go_wp2
    go_ret
    exact ⟨by rw [E.out]; rfl, rfl⟩
  | false =>
    rw [h] at E
    have HL := fun w => letter_at c w
    rw [h] at HL
    go_enter Tryd.func27, Tryd.ntmps27
    go_wp2_with (fail)
    refine (HL _).mono ?_
    rintro e w2 ⟨rfl, rfl⟩
    go_wp2_with (fail)
    refine (digit_at c _).mono ?_
    rintro e w2 ⟨rfl, rfl⟩
    go_wp2
    go_ret
    exact ⟨by rw [E.out]; simp, rfl⟩

theorem notNl_at (c : UInt8) (w : World) : Calls Tryd.prog 21 #[.int .u8 c.toNat] w fun e w' => e = .returned (.bool (notNl c)) ∧ w' = w := by
  have E := Lib.hid (show notNl c = !(c.toNat == 10) from rfl)
  cases h : (c.toNat == 10) with
  | true =>
    rw [h] at E
    have h2 : ((c.toNat : Int) != 10) = false := by simp at h; simp [h]
    clear h
    go_enter Tryd.func21, Tryd.ntmps21
    go_wp2
    go_ret
    exact ⟨by rw [E.out]; rfl, rfl⟩
  | false =>
    rw [h] at E
    have h2 : ((c.toNat : Int) != 10) = true := by simp at h; simp; omega
    clear h
    go_enter Tryd.func21, Tryd.ntmps21
    go_wp2
    go_ret
    exact ⟨by rw [E.out]; rfl, rfl⟩

set_option maxRecDepth 100000 in
theorem while_at (s : ByteArray) (hs : s.size ≤ 4000000000000000000) (k0 : Nat) (hk : k0 ≤ s.size) (g : FuncId) (p : UInt8 → Bool) (eg : ∀ args w, (callFunc g args).run Tryd.prog w = .ok (.enter g args) w)
    (hg : ∀ c w, Calls Tryd.prog g #[.int .u8 (c : UInt8).toNat] w fun e w' => e = .returned (.bool (p c)) ∧ w' = w) (w : World) :
    Calls Tryd.prog 20 #[.string s, .int .i64 k0, .func (.func g) #[] #[]] w fun e w' => e = .returned (.int .i64 (run s p k0)) ∧ w' = w := by
  obtain ⟨n, hn⟩ : ∃ n, n = run s p k0 := ⟨_, rfl⟩
  rw [← hn]
  have HN := Lib.hid hn
  have HG := Lib.hid hg
  clear hn hg
  go_enter Tryd.func20, Tryd.ntmps20
  go_wp2
  go_loopw [1] (fun vi wr => ∃ k : Nat, k ≤ s.size ∧ vi = .int .i64 k ∧ n = run s p k ∧ wr = w) (fun vi _ => s.size - (intOf vi).toNat)
  case atStart => exact ⟨k0, hk, rfl, HN.out, rfl⟩
  case round =>
    obtain ⟨k, hk2, rfl, hr, rfl⟩ := hrel
    have HR := Lib.hid hr
    clear hr
    by_cases hlt : k < s.size
    · have hby : ∀ h, (s[k]'h).toNat = (byt s k).toNat := fun h => by rw [byt_get s k h]
      obtain ⟨c, hc⟩ : ∃ c, c = byt s k := ⟨_, rfl⟩
      rw [← hc] at hby
      have HC := Lib.hid hc
      clear hc
      cases hp : p c with
      | true =>
        have HGP := HG.out c
        rw [hp] at HGP
        have HGP2 := Lib.hid HGP
        have HP := Lib.hid hp
        clear hp HGP
        go_wp2_with (fail)
        refine (HGP2.out _).mono ?_
        rintro e w2 ⟨rfl, rfl⟩
        have hst := run_step (p := p) hlt (by rw [← HC.out]; exact HP.out)
        have HS := Lib.hid (HR.out.trans hst.symm)
        clear hst
        go_wp2
        go_roundw
        case rel => exact ⟨k + 1, by omega, by go_num, HS.out, by first | rfl | trivial⟩
        case measure => simp [intOf]; omega
      | false =>
        have HGP := HG.out c
        rw [hp] at HGP
        have HGP2 := Lib.hid HGP
        have HP := Lib.hid hp
        clear hp HGP
        go_wp2_with (fail)
        refine (HGP2.out _).mono ?_
        rintro e w2 ⟨rfl, rfl⟩
        have hst := run_stop (p := p) hlt (by rw [← HC.out]; exact HP.out)
        have HS := Lib.hid (HR.out.trans hst)
        clear hst
        go_wp2
        go_ret
        exact ⟨by rw [HS.out]; rfl, rfl⟩
    · have HS := Lib.hid (HR.out.trans (run_end (p := p) (by omega)))
      go_wp2
      go_ret
      exact ⟨by rw [HS.out]; rfl, rfl⟩

end Go.Proofs.YtmoemnfflbielaaDoor
