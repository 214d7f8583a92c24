/- The contract of All of the document's net. -/
import Derived.Test.YtflcdbefakjcbaaP6
import Derived.Test.YtflcdbefakjcbaaP7
namespace Go.Proofs.Ytflcdbefakjcbaa
open Go.RowKit Go.Gav Go.BigFrame

/-- All items, or the first one alone. -/
def selB (hd : Bool) : List Int → List Int := if hd then selH else selA
theorem selB_le (hd : Bool) (l : List Int) : (selB hd l).length ≤ l.length := by
  unfold selB; cases hd
  · exact selA_le l
  · exact selH_le l

/-- The links of the first a rows; the first b links of row a. -/
def gridR (k a : Nat) : List En := (List.range a).flatMap fun (a : Nat) => (List.range k).map fun (b : Nat) => (((a : Int), (b : Int)) : En)
def rowR (a b : Nat) : List En := (List.range b).map fun (b : Nat) => (((a : Int), (b : Int)) : En)
theorem gridR_all (k : Nat) : gridR k k = gridE k := rfl
theorem gridR_succ (k a : Nat) : gridR k (a + 1) = gridR k a ++ rowR a k := by
  unfold gridR rowR
  rw [List.range_succ, List.flatMap_append]
  simp
theorem rowR_succ (a b : Nat) : rowR a (b + 1) = rowR a b ++ [((a : Int), (b : Int))] := by
  unfold rowR
  rw [List.range_succ, List.map_append]
  simp
theorem gridR_len (k a : Nat) : (gridR k a).length = a * k := by
  induction a with
  | zero => simp [gridR]
  | succ a ih => rw [gridR_succ, List.length_append, ih, rowR]; simp [Nat.add_mul]

set_option maxRecDepth 100000 in
set_option maxHeartbeats 4000000 in
theorem doc_all {mb rg n room : Nat} {L : List It} (hd : Bool) (w : World) (h : MN w mb rg n room L) (hn : n ≤ 8) (hlen : L.length ≤ 300) :
    Calls Try.prog 35 #[.pointer (some ⟨mb, 0, none⟩), .bool hd] w fun e w' => ∃ v, e = .returned v ∧ w'.ownsRow w.heap.size 78 3 v (handL (selB hd) (onL L) (gridE n)).length (flat3 (handL (selB hd) (onL L) (gridE n))) ∧ Only (fun _ => False) w w' := by
  obtain ⟨i0, hi, hz0, hz1, hz2⟩ := info_parts info78
  obtain ⟨ao, cap, h1, h2, h3, h4⟩ := h
  have c0 : w.cell? ⟨mb, 0, none⟩ = some (.int .i64 n) := by rw [cell_of_row w _ _ _ _ _ h1]; rfl
  have c2 : w.cell? ⟨mb, 2, none⟩ = some (.slice ao L.length cap) := by rw [cell_of_row w _ _ _ _ _ h1]; rfl
  have H3 := Lib.hid h3
  have H4 := Lib.hid h4
  have HBD := Lib.hid (show ∀ l : List En, l.length ≤ 72 → (handL (selB hd) (onL L) l).length ≤ 21600 from fun l hl => by
    have h5 := handL_le (selB hd) (selB_le hd) (onL L) 300 l (fun x => Nat.le_trans (onL_len L x) hlen)
    have h6 : l.length * 300 ≤ 72 * 300 := Nat.mul_le_mul_right _ hl
    omega)
  obtain ⟨len, hln⟩ : ∃ x, x = L.length := ⟨_, rfl⟩
  rw [← hln] at c2 hlen H3
  have HLN := Lib.hid hln
  have C0 := Lib.hid c0
  have C2 := Lib.hid c2
  clear h1 h2 h3 h4 hln c0 c2
  go_enter Try.func35, Try.ntmps35
  go_wp2_with (fail)
  go_loopw [5, 6] (fun vo va wr => ∃ a : Nat, va = .int .i64 a ∧ a ≤ n ∧ Hid (wr.ownsRow w.heap.size 78 3 vo (handL (selB hd) (onL L) (gridR n a)).length (flat3 (handL (selB hd) (onL L) (gridR n a)))) ∧ Hid (Only (fun _ => False) w wr)) (fun _ va _ => n - (intOf va).toNat)
  case atStart => exact ⟨0, rfl, Nat.zero_le _, by simpa [gridR, handL, flat3, Hid] using World.ownsRow_nil w w.heap.size 78 3, Only.refl _ _⟩
  case round =>
    obtain ⟨a, rfl, ha, HROW, HO⟩ := hrel
    have c0 := HO.out.cell C0.out id
    by_cases hlt : a < n
    · go_wp2_with (fail)
      go_loopw [5, 7] (fun vo vb wr => ∃ b : Nat, vb = .int .i64 b ∧ b ≤ n ∧ Hid (wr.ownsRow w.heap.size 78 3 vo (handL (selB hd) (onL L) (gridR n a ++ rowR a b)).length (flat3 (handL (selB hd) (onL L) (gridR n a ++ rowR a b)))) ∧ Hid (Only (fun _ => False) w wr)) (fun _ vb _ => n - (intOf vb).toNat)
      case atStart => exact ⟨0, rfl, Nat.zero_le _, by simpa [rowR] using HROW, HO⟩
      case round =>
        clear HROW HO c0
        obtain ⟨b, rfl, hb, HROW, HO⟩ := hrel
        have c0 := HO.out.cell C0.out id
        by_cases hlt2 : b < n
        · have hbase := HBD.out (gridR n a ++ rowR a b) (by
            rw [List.length_append, gridR_len, rowR, List.length_map, List.length_range]
            have h3 : (a + 1) * n ≤ 8 * 8 := Nat.mul_le_mul (by omega) hn
            rw [Nat.add_mul] at h3
            omega)
          have hsn := handL_snoc (selB hd) (onL L) (gridR n a ++ rowR a b) ((a : Int), (b : Int))
          rw [List.append_assoc, ← rowR_succ] at hsn
          have HSN := Lib.hid hsn
          obtain ⟨B, hB⟩ : ∃ B, B = handL (selB hd) (onL L) (gridR n a ++ rowR a b) := ⟨_, rfl⟩
          rw [← hB] at hbase HSN HROW
          clear hsn hB
          go_wp2_with (fail)
          go_loopw [5, 8, 9] (fun vo vc vi wr => ∃ i c : Nat, vc = .int .i64 c ∧ vi = .int .i64 i ∧ i ≤ len ∧ c ≤ i ∧ Hid (c = (selB hd (onL (L.take i) ((a : Int), (b : Int)))).length) ∧ Hid (wr.ownsRow w.heap.size 78 3 vo (B ++ (selB hd (onL (L.take i) ((a : Int), (b : Int)))).map (fun v => ((((a : Int), (b : Int)) : En), v))).length (flat3 (B ++ (selB hd (onL (L.take i) ((a : Int), (b : Int)))).map (fun v => ((((a : Int), (b : Int)) : En), v))))) ∧ Hid (Only (fun _ => False) w wr)) (fun _ _ vi _ => len - (intOf vi).toNat)
          case atStart => exact ⟨0, 0, rfl, rfl, Nat.zero_le _, Nat.le_refl _, by cases hd <;> rfl, by cases hd <;> simpa [selB, selA, selH, onL] using HROW, HO⟩
          case round =>
            clear HROW HO c0
            obtain ⟨i, c, rfl, rfl, hil, hci, HC, HROW, HO⟩ := hrel
            have c2 := HO.out.cell C2.out id
            by_cases hlt3 : i < len
            · obtain rfl := H3.out (by omega)
              have hiL : i < L.length := by rw [← HLN.out]; exact hlt3
              obtain ⟨e0, e1, e2⟩ := mem_cells (fun j u hj => HO.out.cell (H4.out j u hj) id) i hiL
              obtain ⟨⟨⟨x, y⟩, z⟩, hx⟩ : ∃ x, x = L[i] := ⟨_, rfl⟩
              rw [← hx] at e0 e1 e2
              have hs := take_snoc3 L i hiL
              rw [← hx] at hs
              have HS := Lib.hid hs
              simp only at e0 e1 e2
              clear hx hs
              by_cases hxy : x = (a : Int) ∧ y = (b : Int)
              · obtain ⟨rfl, rfl⟩ := hxy
                have heq : onL (L.take (i + 1)) ((a : Int), (b : Int)) = onL (L.take i) ((a : Int), (b : Int)) ++ [z] := by
                  rw [HS.out]; exact onL_snoc_eq _ _ _
                have HEQ := Lib.hid heq
                have hol := onL_len (L.take i) ((a : Int), (b : Int))
                rw [List.length_take] at hol
                obtain ⟨o, ho⟩ : ∃ o, o = onL (L.take i) ((a : Int), (b : Int)) := ⟨_, rfl⟩
                rw [← ho] at HC HROW HEQ hol
                have hwsz := HO.out.size
                clear heq ho HS
                cases hd with
                | false =>
                  have hrow : wr.ownsRow w.heap.size 78 3 u5 (B ++ o.map (fun v => ((((a : Int), (b : Int)) : En), v))).length (flat3 (B ++ o.map (fun v => ((((a : Int), (b : Int)) : En), v)))) := HROW.out
                  have hc : c = o.length := HC.out
                  obtain ⟨m, hm⟩ : ∃ m, m = (B ++ o.map (fun v => ((((a : Int), (b : Int)) : En), v))).length := ⟨_, rfl⟩
                  rw [← hm] at hrow
                  have hmb : m ≤ 30000 := by rw [hm]; simp; omega
                  have HRM := Lib.hid hrow
                  have HMM := Lib.hid hm
                  have HCC := Lib.hid hc
                  clear hrow hm hc HROW HC
                  go_wp2_with (first | (at_builtin; refine wpList_append_own _ rfl (.tmp 65) (.tmp 73) 71 rfl w.heap.size 78 i0 (.agg #[.int .i64 0, .int .i64 0, .int .i64 0]) 3 24 Try.underlying71 hi hz0 hz1 hz2 rfl (by decide) _ m _ rfl (HRM.out.alloc _) ⟨wr.heap.size, 0, none⟩ 1 1 [.int .i64 a, .int .i64 b, .int .i64 z] rfl rfl (new_three wr _ _ _ _) (by simp [Value.oneCell']) (by unfold maxLen; omega) (by omega) (by simp; omega) ?_; intro v' w3 own3 hgr _; have OWN3 := Lib.hid own3; have O3 := Lib.hid (show Only (fun _ => False) w w3 from (HO.out.alloc _).grown hgr (fun j hj => .inr (HRM.out.lt j hj).1)); clear own3 hgr) | fail)
                  go_roundw
                  case rel =>
                    refine ⟨i + 1, c + 1, by go_num, by go_num, by omega, by omega, ?_, ?_, O3⟩
                    · rw [HEQ.out]
                      show c + 1 = (o ++ [z]).length
                      rw [HCC.out]; simp
                    · rw [HEQ.out]
                      have h := OWN3.out
                      rw [HMM.out] at h
                      have e1 : B ++ (o ++ [z]).map (fun v => ((((a : Int), (b : Int)) : En), v)) = (B ++ o.map (fun v => ((((a : Int), (b : Int)) : En), v))) ++ [((((a : Int), (b : Int)) : En), z)] := by simp
                      show World.ownsRow _ _ _ _ _ (List.length (B ++ (o ++ [z]).map (fun v => ((((a : Int), (b : Int)) : En), v)))) (flat3 (B ++ (o ++ [z]).map (fun v => ((((a : Int), (b : Int)) : En), v))))
                      rw [e1, flat3_append, List.length_append]
                      exact h
                  case measure => simp [intOf]; omega
                | true =>
                  cases o with
                  | nil =>
                    have hrow : wr.ownsRow w.heap.size 78 3 u5 B.length (flat3 B) := by simpa [selB, selH] using HROW.out
                    have hc : c = 0 := HC.out
                    subst hc
                    obtain ⟨m, hm⟩ : ∃ m, m = B.length := ⟨_, rfl⟩
                    rw [← hm] at hrow
                    have hmb : m ≤ 30000 := by omega
                    have HRM := Lib.hid hrow
                    have HMM := Lib.hid hm
                    clear hrow hm HROW HC
                    go_wp2_with (first | (at_builtin; refine wpList_append_own _ rfl (.tmp 65) (.tmp 73) 71 rfl w.heap.size 78 i0 (.agg #[.int .i64 0, .int .i64 0, .int .i64 0]) 3 24 Try.underlying71 hi hz0 hz1 hz2 rfl (by decide) _ m _ rfl (HRM.out.alloc _) ⟨wr.heap.size, 0, none⟩ 1 1 [.int .i64 a, .int .i64 b, .int .i64 z] rfl rfl (new_three wr _ _ _ _) (by simp [Value.oneCell']) (by unfold maxLen; omega) (by omega) (by simp; omega) ?_; intro v' w3 own3 hgr _; have OWN3 := Lib.hid own3; have O3 := Lib.hid (show Only (fun _ => False) w w3 from (HO.out.alloc _).grown hgr (fun j hj => .inr (HRM.out.lt j hj).1)); clear own3 hgr) | fail)
                    go_roundw
                    case rel =>
                      refine ⟨i + 1, 1, by first | rfl | go_num, by go_num, by omega, by omega, ?_, ?_, O3⟩
                      · rw [HEQ.out]; rfl
                      · rw [HEQ.out]
                        have h := OWN3.out
                        rw [HMM.out] at h
                        have e1 : B ++ (selB true ([] ++ [z])).map (fun v => ((((a : Int), (b : Int)) : En), v)) = B ++ [((((a : Int), (b : Int)) : En), z)] := rfl
                        show World.ownsRow _ _ _ _ _ (List.length (B ++ (selB true ([] ++ [z])).map (fun v => ((((a : Int), (b : Int)) : En), v)))) (flat3 (B ++ (selB true ([] ++ [z])).map (fun v => ((((a : Int), (b : Int)) : En), v))))
                        rw [e1, flat3_append, List.length_append]
                        exact h
                    case measure => simp [intOf]; omega
                  | cons q r =>
                    have hc : c = 1 := by simpa [selB, selH] using HC.out
                    subst hc
                    have hsame : selB true ((q :: r) ++ [z]) = selB true (q :: r) := by simp [selB, selH]
                    have HSM := Lib.hid hsame
                    clear hsame
                    go_wp2
                    go_roundw
                    case rel => exact ⟨i + 1, 1, rfl, by go_num, by omega, by omega, by rw [HEQ.out, HSM.out]; exact HC, by rw [HEQ.out, HSM.out]; exact HROW, HO⟩
                    case measure => simp [intOf]; omega
              · have hun : onL (L.take (i + 1)) ((a : Int), (b : Int)) = onL (L.take i) ((a : Int), (b : Int)) := by
                  rw [HS.out]; exact onL_snoc_ne _ _ _ _ (fun e => hxy (by simpa using e))
                have HUN := Lib.hid hun
                clear hun e2
                by_cases hxa : x = (a : Int)
                · subst hxa
                  have hyb' : (y == (b : Int)) = false := by simpa using hxy
                  clear hxy
                  go_wp2
                  go_roundw
                  case rel => exact ⟨i + 1, c, rfl, by go_num, by omega, by omega, by rw [HUN.out]; exact HC, by rw [HUN.out]; exact HROW, HO⟩
                  case measure => simp [intOf]; omega
                · have hxa' : (x == (a : Int)) = false := by simpa using hxa
                  clear hxy hxa
                  go_wp2
                  go_roundw
                  case rel => exact ⟨i + 1, c, rfl, by go_num, by omega, by omega, by rw [HUN.out]; exact HC, by rw [HUN.out]; exact HROW, HO⟩
                  case measure => simp [intOf]; omega
            · obtain rfl : i = len := by omega
              have hrow := HROW.out
              rw [HLN.out, List.take_length, ← HSN.out] at hrow
              have HR2 := Lib.hid hrow
              clear hrow HROW HC
              go_wp2
              go_roundw
              case rel => exact ⟨b + 1, by go_num, by omega, HR2, HO⟩
              case measure => simp [intOf]; omega
        · obtain rfl : b = n := by omega
          have hrow := HROW.out
          rw [← gridR_succ] at hrow
          have HR2 := Lib.hid hrow
          clear hrow HROW
          go_wp2
          go_roundw
          case rel => exact ⟨a + 1, by go_num, by omega, HR2, HO⟩
          case measure => simp [intOf]; omega
    · obtain rfl : a = n := by omega
      have hrow := HROW.out
      rw [gridR_all] at hrow
      have HR2 := Lib.hid hrow
      clear hrow HROW
      go_wp2
      go_ret
      exact ⟨_, rfl, HR2.out, HO.out⟩

end Go.Proofs.Ytflcdbefakjcbaa
