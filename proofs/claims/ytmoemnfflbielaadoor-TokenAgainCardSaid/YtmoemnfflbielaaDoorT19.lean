/- The contract of the law's own text. -/
import Derived.Test.YtmoemnfflbielaaDoorT18
import Derived.Laws.IdiomStrings
namespace Go.Proofs.YtmoemnfflbielaaDoor
open Go.RowKit Go.Gav Go.BigFrame Go.Shelf

theorem conv_digit (W : World) (d : Nat) (hd : d < 10) (z : Int) (hz : z = 48 + (d : Int)) :
    (convert 42 9 (.slice (some ⟨W.heap.size, 0, none⟩) 1 1)).run Tryd.prog (W.alloc (.cells #[.int .u8 z] 5)) = .ok (.string (mk [digB d])) (W.alloc (.cells #[.int .u8 z] 5)) :=
  run_convert_bytes_back (P := Tryd.prog) _ 42 9 5 ⟨W.heap.size, 0, none⟩ 1 [digB d] Tryd.underlying42 Tryd.underlying5 Tryd.underlying9 (fun j hj => by
    obtain rfl : j = 0 := by simpa using hj
    have := cell_of_one (heap_alloc_new W (.cells #[.int .u8 z] 5))
    rw [hz] at this ⊢
    rw [show (⟨W.heap.size, 0, none⟩ : Addr).add 0 = ⟨W.heap.size, 0, none⟩ from rfl, this]
    have e : ((digB d).toNat : Int) = 48 + (d : Int) := by rw [digB_nat hd]; omega
    simp [e])

theorem mk_append (a b : List UInt8) : mk a ++ mk b = mk (a ++ b) := by
  apply ByteArray.ext
  simp [mk]

theorem decL_length (n : Nat) : ∀ k, n < 10 ^ k → 1 ≤ k → (decL n).length ≤ k := by
  induction n using Nat.strongRecOn with
  | _ n ih =>
    intro k hk h1
    rw [decL]
    split
    · simpa using h1
    · rename_i h
      obtain ⟨k, rfl⟩ : ∃ k', k = k' + 1 := ⟨k - 1, by omega⟩
      have h2 : 1 ≤ k := by
        rcases Nat.eq_zero_or_pos k with rfl | h'
        · simp at hk; omega
        · exact h'
      have := ih (n / 10) (by omega) k (by rw [Nat.pow_succ] at hk; omega) h2
      rw [List.length_append]
      simp
      exact this

theorem decL_20 {n : Nat} (h : n ≤ maxI) : (decL n).length ≤ 20 := decL_length n 20 (by unfold maxI at h; omega) (by omega)

set_option maxRecDepth 100000 in
theorem text_int (S : ByteArray) (N A : Nat) (hN : N ≤ maxI) (w : World) :
    Calls Tryd.prog 9 #[.agg (tokC ⟨1, S, N, A⟩)] w fun e w' => e = .returned (.string (mk (decL N))) ∧ Only (fun _ => False) w w' := by
  have hlen := decL_20 hN
  unfold maxI at hN
  have hin : Calls Tryd.prog 9 #[.agg #[.int .i64 1, .string S, .int .i64 N, .int .i64 A]] w fun e w' => e = .returned (.string (mk (decL N))) ∧ Only (fun _ => False) w w' := by
    have hc := conv_digit (w.alloc (Obj.cells #[Value.int IntKind.i64 1, Value.string S, Value.int IntKind.i64 N, Value.int IntKind.i64 A] 28)) (N % 10) (by omega) (48 + (N : Int) % 10) (by omega)
    rw [World.size_alloc] at hc
    have h0 : (N / 10 = 0 ∧ [digB (N % 10)] = decL N) ∨ (0 < N / 10 ∧ decL (N / 10) ++ [digB (N % 10)] = decL N) := by
      rw [decL]
      by_cases h : N < 10
      · rw [if_pos h, Nat.mod_eq_of_lt h]; exact .inl ⟨by omega, rfl⟩
      · rw [if_neg h]; exact .inr ⟨by omega, rfl⟩
    have H0 := Lib.hid h0
    obtain ⟨D, hD⟩ : ∃ D, D = decL N := ⟨_, rfl⟩
    rw [← hD] at hlen H0 ⊢
    clear h0 hD
    go_enter Tryd.func9, Tryd.ntmps9
    go_wp2
    go_loopw [3, 4] (fun vs vn wr => ∃ (n : Nat) (T : List UInt8), vn = .int .i64 n ∧ vs = .string (mk T) ∧ n ≤ 9223372036854775807 ∧ ((n = 0 ∧ T = D) ∨ (0 < n ∧ decL n ++ T = D)) ∧ Only (fun _ => False) w wr) (fun _ vn _ => (intOf vn).toNat)
    case atStart =>
      refine ⟨N / 10, [digB (N % 10)], by congr 1, rfl, by omega, H0.out, ((Only.refl _ _).alloc _).alloc _⟩
    case round =>
      clear hc H0
      obtain ⟨n, T, rfl, rfl, hn, hT, ho⟩ := hrel
      have HT := Lib.hid hT
      have HO := Lib.hid ho
      clear hT ho
      by_cases h0 : 0 < n
      · have hc := conv_digit wr (n % 10) (by omega) (48 + (n : Int) % 10) (by omega)
        have hD2 : decL n ++ T = D := by
          rcases HT.out with h | h
          · omega
          · exact h.2
        have hszT : (mk T).size ≤ 20 := by
          have := congrArg List.length hD2
          rw [List.length_append] at this
          rw [mk_size]; omega
        have hsz1 : (mk [digB (n % 10)]).size = 1 := by rw [mk_size]; rfl
        have hne : (n / 10 = 0 ∧ [digB (n % 10)] ++ T = D) ∨ (0 < n / 10 ∧ decL (n / 10) ++ ([digB (n % 10)] ++ T) = D) := by
          rw [decL] at hD2
          by_cases h : n < 10
          · rw [if_pos h] at hD2
            rw [Nat.mod_eq_of_lt h]
            exact .inl ⟨by omega, hD2⟩
          · rw [if_neg h, List.append_assoc] at hD2
            exact .inr ⟨by omega, hD2⟩
        have HNE := Lib.hid hne
        clear hne hD2
        go_wp2
        go_roundw
        case rel => exact ⟨n / 10, _, by congr 1, by rw [← mk_append], by omega, HNE.out, HO.out.alloc _⟩
        case measure => simp [intOf]; omega
      · have hD2 : T = D := by
          rcases HT.out with h | h
          · exact h.2
          · omega
        have HD := Lib.hid hD2
        clear hD2
        go_wp2
        go_ret
        exact ⟨by rw [HD.out]; rfl, HO.out⟩
  exact hin

theorem bys_mk (s : ByteArray) : mk (bys s) = s := Lib.mk_data s

/-- text answers a word's text. -/
theorem text_at (t : Tok) (hN : t.N ≤ maxI) (hS : t.S.size ≤ 100) (w : World) :
    Calls Tryd.prog 9 #[.agg (tokC t)] w fun e w' => e = .returned (.string (mk (textT t))) ∧ Only (fun _ => False) w w' := by
  obtain ⟨kd, S, N, A⟩ := t
  simp only at hN hS
  by_cases h1 : kd = 1
  · subst h1
    exact text_int S N A hN w
  · by_cases h2 : kd = 2
    · subst h2
      have e : mk (textT ⟨2, S, N, A⟩) = (⟨#[39]⟩ : ByteArray) ++ S := by
        show mk (39 :: bys S) = _
        rw [← List.singleton_append, ← mk_append, bys_mk]; rfl
      rw [e]
      have hin : Calls Tryd.prog 9 #[.agg #[.int .i64 2, .string S, .int .i64 N, .int .i64 A]] w fun e w' => e = .returned (.string ((⟨#[39]⟩ : ByteArray) ++ S)) ∧ Only (fun _ => False) w w' := by
        have hq : (⟨#[39]⟩ : ByteArray).size = 1 := rfl
        go_enter Tryd.func9, Tryd.ntmps9
        go_wp2
        go_ret
        exact ⟨rfl, (Only.refl _ _).alloc _⟩
      exact hin
    · have e : mk (textT ⟨kd, S, N, A⟩) = S := by
        unfold textT
        rw [if_neg h1, if_neg h2]
        exact bys_mk S
      rw [e]
      have hin : Calls Tryd.prog 9 #[.agg #[.int .i64 kd, .string S, .int .i64 N, .int .i64 A]] w fun e w' => e = .returned (.string S) ∧ Only (fun _ => False) w w' := by
        have g1 : ((kd : Int) == 1) = false := by simp; omega
        have g2 : ((kd : Int) == 2) = false := by simp; omega
        go_enter Tryd.func9, Tryd.ntmps9
        go_wp2
        go_ret
        exact ⟨rfl, (Only.refl _ _).alloc _⟩
      exact hin

end Go.Proofs.YtmoemnfflbielaaDoor
