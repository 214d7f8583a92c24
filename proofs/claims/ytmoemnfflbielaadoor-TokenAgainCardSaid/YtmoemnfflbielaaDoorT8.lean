/- The contracts of the document's letter, digit and mark. -/
import Derived.Test.YtmoemnfflbielaaDoorT7
namespace Go.Proofs.YtmoemnfflbielaaDoor
open Go.RowKit Go.Gav Go.BigFrame Go.Shelf

theorem rletter_at (c : UInt8) (w : World) : Calls Tryd.prog 14 #[.int .u8 c.toNat] w fun e w' => e = .returned (.bool (isLet c)) ∧ w' = w := by
  by_cases h : 97 ≤ c.toNat
  · by_cases h2 : c.toNat ≤ 122
    · have e : isLet c = true := by simp [isLet, h, h2]
      have E := Lib.hid e
      clear e
      go_enter Tryd.func14, Tryd.ntmps14
      go_wp2
      go_ret
      exact ⟨by rw [E.out]; simp; omega, rfl⟩
    · have e : isLet c = false := by simp [isLet, h, h2]
      have E := Lib.hid e
      clear e
      go_enter Tryd.func14, Tryd.ntmps14
      go_wp2
      go_ret
      exact ⟨by rw [E.out]; simp; omega, rfl⟩
  · have e : isLet c = false := by simp [isLet, h]
    have E := Lib.hid e
    clear e
    go_enter Tryd.func14, Tryd.ntmps14
    go_wp2
    go_ret
    exact ⟨by rw [E.out]; rfl, rfl⟩

theorem rdigit_at (c : UInt8) (w : World) : Calls Tryd.prog 15 #[.int .u8 c.toNat] w fun e w' => e = .returned (.bool (isDig c)) ∧ w' = w := by
  by_cases h : 48 ≤ c.toNat
  · by_cases h2 : c.toNat ≤ 57
    · have e : isDig c = true := by simp [isDig, h, h2]
      have E := Lib.hid e
      clear e
      go_enter Tryd.func15, Tryd.ntmps15
      go_wp2
      go_ret
      exact ⟨by rw [E.out]; simp; omega, rfl⟩
    · have e : isDig c = false := by simp [isDig, h, h2]
      have E := Lib.hid e
      clear e
      go_enter Tryd.func15, Tryd.ntmps15
      go_wp2
      go_ret
      exact ⟨by rw [E.out]; simp; omega, rfl⟩
  · have e : isDig c = false := by simp [isDig, h]
    have E := Lib.hid e
    clear e
    go_enter Tryd.func15, Tryd.ntmps15
    go_wp2
    go_ret
    exact ⟨by rw [E.out]; rfl, rfl⟩

/-- How long the mark is that a text begins with. -/
def markN (l : List UInt8) : Nat := match markAt l with
  | some m => m.length
  | none => 0

def ones : List UInt8 := [123, 125, 40, 41, 44, 59, 58, 46, 61, 60, 43, 45, 42, 47, 37]

theorem pre_one (c x : UInt8) (r : List UInt8) : Lib.hasPrefix (c :: r) [x] = (x == c) := by
  rw [← Lib.hasPrefix_of_take]
  simp
  exact BEq.comm

theorem pre_two (c d x y : UInt8) (r : List UInt8) : Lib.hasPrefix (c :: d :: r) [x, y] = (x == c && y == d) := by
  rw [← Lib.hasPrefix_of_take]
  simp
  rw [BEq.comm (a := c), BEq.comm (a := d)]

theorem pre_two_short (c x y : UInt8) : Lib.hasPrefix [c] [x, y] = false := by
  rw [← Lib.hasPrefix_of_take]
  simp

theorem find_ones (c : UInt8) (r : List UInt8) : ∀ L : List UInt8, (L.map fun x => [x]).find? (fun m => Lib.hasPrefix (c :: r) m) = if L.contains c then some [c] else none
  | [] => rfl
  | x :: L => by
    rw [List.map_cons]
    by_cases h : x = c
    · subst h
      rw [List.find?_cons_of_pos (by rw [pre_one]; simp)]
      simp
    · rw [List.find?_cons_of_neg (by rw [pre_one]; simp [h]), find_ones c r L]
      have : (x :: L).contains c = L.contains c := by simp [Ne.symm h]
      rw [this]

theorem marks_split : marksL = [45, 62] :: [60, 61] :: ones.map fun x => [x] := rfl

theorem markN_two {c d : UInt8} {r : List UInt8} (h : c = 45 ∧ d = 62 ∨ c = 60 ∧ d = 61) : markN (c :: d :: r) = 2 := by
  unfold markN markAt
  rw [marks_split]
  rcases h with ⟨rfl, rfl⟩ | ⟨rfl, rfl⟩
  · rw [List.find?_cons_of_pos (by rw [pre_two]; rfl)]; rfl
  · rw [List.find?_cons_of_neg (by rw [pre_two]; decide), List.find?_cons_of_pos (by rw [pre_two]; rfl)]; rfl

theorem markN_one {c : UInt8} {r : List UInt8} (h : ∀ d r', r = d :: r' → ¬ (c = 45 ∧ d = 62 ∨ c = 60 ∧ d = 61)) : markN (c :: r) = if ones.contains c then 1 else 0 := by
  have e : markAt (c :: r) = if ones.contains c then some [c] else none := by
    unfold markAt
    rw [marks_split, List.find?_cons_of_neg, List.find?_cons_of_neg, find_ones]
    · cases r with
      | nil => rw [pre_two_short]; simp
      | cons d r' =>
        have := h d r' rfl
        rw [pre_two]
        simp
        intro e1 e2
        exact this (.inr ⟨e1.symm, e2.symm⟩)
    · cases r with
      | nil => rw [pre_two_short]; simp
      | cons d r' =>
        have := h d r' rfl
        rw [pre_two]
        simp
        intro e1 e2
        exact this (.inl ⟨e1.symm, e2.symm⟩)
  unfold markN
  rw [e]
  split
  · rename_i h1
    split at h1
    · cases h1; rw [if_pos ‹_›]; rfl
    · cases h1
  · rename_i h1
    split at h1
    · cases h1
    · rw [if_neg ‹_›]

theorem ones_index (i : Nat) : ∀ hh, ((⟨#[123, 125, 40, 41, 44, 59, 58, 46, 61, 60, 43, 45, 42, 47, 37]⟩ : ByteArray)[i]'hh).toNat = (ones.getD i 0).toNat := by
  intro hh
  rw [byt_get _ _ hh]
  rfl

theorem u8_ne (a b : UInt8) (h : a ≠ b) : a.toNat ≠ b.toNat := fun e => h (UInt8.toNat_inj.1 e)

set_option maxRecDepth 100000 in
set_option maxHeartbeats 1000000 in
theorem mark_at (s : ByteArray) (hs : s.size ≤ 4000000000000000000) (k : Nat) (hlt : k < s.size) (w : World) :
    Calls Tryd.prog 16 #[.string s, .int .i64 k] w fun e w' => e = .returned (.int .i64 (markN ((bys s).drop k))) ∧ Only (fun _ => False) w w' := by
  have hby : ∀ h, (s[k]'h).toNat = (byt s k).toNat := fun h => by rw [byt_get s k h]
  obtain ⟨n, hn⟩ : ∃ n, n = markN ((bys s).drop k) := ⟨_, rfl⟩
  rw [← hn]
  rw [drop_byt s k hlt] at hn
  obtain ⟨c, hc⟩ : ∃ c, c = byt s k := ⟨_, rfl⟩
  rw [← hc] at hby hn
  obtain ⟨x, hx⟩ : ∃ x, x = c.toNat := ⟨_, rfl⟩
  rw [← hx] at hby
  have fin : ∀ (P : Prop), (((x : Int) == 45) = false ∧ ((x : Int) == 60) = false → P) → P ∨ x = 45 ∨ x = 60 := fun P h => by
    by_cases h1 : x = 45
    · exact .inr (.inl h1)
    · by_cases h2 : x = 60
      · exact .inr (.inr h2)
      · exact .inl (h ⟨by simp; omega, by simp; omega⟩)
  clear fin
  by_cases htwo : k + 1 < s.size ∧ ((c = 45 ∧ byt s (k + 1) = 62) ∨ (c = 60 ∧ byt s (k + 1) = 61))
  · obtain ⟨h1, h2⟩ := htwo
    rw [drop_byt s (k + 1) h1, markN_two h2] at hn
    have hby2 : ∀ h, (s[k + 1]'h).toNat = (byt s (k + 1)).toNat := fun h => by rw [byt_get s (k + 1) h]
    have HN := Lib.hid hn
    clear hn hc
    rcases h2 with ⟨rfl, h2⟩ | ⟨rfl, h2⟩
    · rw [h2] at hby2
      have hx' : x = 45 := hx
      have hby2' : ∀ h, (s[k + 1]'h).toNat = 62 := hby2
      clear hx hby2 h2
      subst hx'
      go_enter Tryd.func16, Tryd.ntmps16
      go_wp2
      go_ret
      exact ⟨by rw [HN.out]; rfl, Only.refl _ _⟩
    · rw [h2] at hby2
      have hx' : x = 60 := hx
      have hby2' : ∀ h, (s[k + 1]'h).toNat = 61 := hby2
      clear hx hby2 h2
      subst hx'
      go_enter Tryd.func16, Tryd.ntmps16
      go_wp2
      go_ret
      exact ⟨by rw [HN.out]; rfl, Only.refl _ _⟩
  · have hno : ∀ d r', (bys s).drop (k + 1) = d :: r' → ¬ (c = 45 ∧ d = 62 ∨ c = 60 ∧ d = 61) := fun d r' e h => by
      have h1 : k + 1 < s.size := by
        rcases Nat.lt_or_ge (k + 1) s.size with h1 | h1
        · exact h1
        · rw [List.drop_eq_nil_of_le (by rw [bys_length]; exact h1)] at e; cases e
      rw [drop_byt s (k + 1) h1] at e
      cases e
      exact htwo ⟨h1, h⟩
    rw [markN_one hno] at hn
    have hcase : (¬ ((k : Int) + 1 < (s.size : Int))) ∨ ((k : Int) + 1 < (s.size : Int) ∧ ∃ y : Nat, (∀ h, (s[k + 1]'h).toNat = y) ∧
        ((((x : Int) == 45) = true ∧ ((y : Int) == 62) = false ∧ ((x : Int) == 60) = false) ∨ (((x : Int) == 45) = false ∧ ((x : Int) == 60) = false) ∨ (((x : Int) == 45) = false ∧ ((x : Int) == 60) = true ∧ ((y : Int) == 61) = false))) := by
      by_cases h1 : k + 1 < s.size
      · refine .inr ⟨by omega, (byt s (k + 1)).toNat, fun h => by rw [byt_get s (k + 1) h], ?_⟩
        have n1 : ¬ (c = 45 ∧ byt s (k + 1) = 62) := fun h => htwo ⟨h1, .inl h⟩
        have n2 : ¬ (c = 60 ∧ byt s (k + 1) = 61) := fun h => htwo ⟨h1, .inr h⟩
        by_cases e1 : c = 45
        · have q : byt s (k + 1) ≠ 62 := fun h => n1 ⟨e1, h⟩
          have q2 := u8_ne _ _ q
          rw [show (62 : UInt8).toNat = 62 from rfl] at q2
          rw [e1, show (45 : UInt8).toNat = 45 from rfl] at hx
          exact .inl ⟨by simp [hx], by simp; omega, by simp [hx]⟩
        · have q1 := u8_ne _ _ e1
          rw [show (45 : UInt8).toNat = 45 from rfl, ← hx] at q1
          by_cases e2 : c = 60
          · have q : byt s (k + 1) ≠ 61 := fun h => n2 ⟨e2, h⟩
            have q2 := u8_ne _ _ q
            rw [show (61 : UInt8).toNat = 61 from rfl] at q2
            rw [e2, show (60 : UInt8).toNat = 60 from rfl] at hx
            exact .inr (.inr ⟨by simp [hx], by simp [hx], by simp; omega⟩)
          · have q3 := u8_ne _ _ e2
            rw [show (60 : UInt8).toNat = 60 from rfl, ← hx] at q3
            exact .inr (.inl ⟨by simp; omega, by simp; omega⟩)
      · exact .inl (by omega)
    have HX := Lib.hid hx
    have HN := Lib.hid hn
    clear hn hx hno htwo hc
    go_enter Tryd.func16, Tryd.ntmps16
    rcases hcase with h1 | ⟨h1, y, hby2, ⟨g1, g2, g3⟩ | ⟨g1, g2⟩ | ⟨g1, g2, g3⟩⟩
    all_goals (
      go_wp2
      go_loopw [6] (fun vi wr => ∃ i : Nat, i ≤ 15 ∧ vi = .int .i64 i ∧ (ones.take i).contains c = false ∧ Only (fun _ => False) w wr) (fun vi _ => 15 - (intOf vi).toNat)
      case atStart => exact ⟨0, Nat.zero_le _, rfl, rfl, Only.refl _ _⟩
      case round =>
        obtain ⟨i, hi, rfl, hno, ho⟩ := hrel
        have HNO := Lib.hid hno
        have HO := Lib.hid ho
        clear hno ho
        by_cases h15 : i < 15
        · have hix := ones_index i
          have hlen : i < ones.length := h15
          obtain ⟨d, hd⟩ : ∃ d, d = ones.getD i 0 := ⟨_, rfl⟩
          rw [← hd] at hix
          have hsn : ones.take (i + 1) = ones.take i ++ [d] := by
            rw [List.take_succ_eq_append_getElem hlen, hd]; simp [hlen]
          by_cases hdc : c = d
          · have hm : ones.contains c = true := by
              rw [hdc, hd]; simp [hlen]
            have HM := Lib.hid hm
            have hq : ((x : Int) == (d.toNat : Int)) = true := by rw [HX.out, hdc]; simp
            clear hd hsn hdc hm
            go_wp2
            go_quiet (fail)
            go_wp2
            go_ret
            exact ⟨by rw [HN.out, HM.out]; rfl, HO.out.drewN _⟩
          · have hm : (ones.take (i + 1)).contains c = false := by
              rw [hsn, List.contains_append, HNO.out]; simp [hdc]
            have HM := Lib.hid hm
            have hq : ((x : Int) == (d.toNat : Int)) = false := by
              have := u8_ne _ _ hdc
              rw [HX.out]; simp; omega
            clear hd hsn hdc hm
            go_wp2
            go_quiet (fail)
            go_wp2
            go_roundw
            case rel => exact ⟨i + 1, by omega, by go_num, HM.out, HO.out.drewN _⟩
            case measure => simp [intOf]; omega
        · have h15' : i = 15 := by omega
          subst h15'
          have hm : ones.contains c = false := HNO.out
          have HM := Lib.hid hm
          clear hm
          go_wp2
          go_ret
          exact ⟨by rw [HN.out, HM.out]; rfl, HO.out⟩)

end Go.Proofs.YtmoemnfflbielaaDoor
