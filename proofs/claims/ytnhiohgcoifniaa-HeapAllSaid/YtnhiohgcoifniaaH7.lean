/- The contract of Set. -/
import Derived.Test.YtnhiohgcoifniaaH6
import Derived.Deep.AppendLies
namespace Go.Proofs.Ytnhiohgcoifniaa
open Go.RowKit Go.Gav Go.BigFrame
open Go.Maps (Tidy IsMap)

theorem info40 : (Try.prog.info? 40).map (fun i => (i.zero, i.size, i.bytes)) = some (some (.agg #[.int .i64 0, .int .i64 0]), 2, 16) := by kernel_rfl

theorem RowE.block {w : World} {t : TypeId} {lb g : Nat} {v : Value} {L : List En} (h : RowE w t lb v L) (e : v.ownBlock = some g) : g = lb := by
  rcases h with ⟨rfl, rfl⟩ | ⟨cap, cur, rfl, _⟩
  · cases e
  · cases e; rfl

theorem new_two (w : World) (u v : Value) (t : TypeId) : ∀ j x, [u, v][j]? = some x → (w.alloc (.cells #[u, v] t)).cell? ((⟨w.heap.size, 0, none⟩ : Addr).add j) = some x := by
  intro j x hj
  have hadd : (⟨w.heap.size, 0, none⟩ : Addr).add j = ⟨w.heap.size, j, none⟩ := by unfold Addr.add; split <;> simp_all
  rw [hadd, cell_of_row _ _ _ _ _ _ (heap_alloc_new w _)]
  simpa using hj

theorem append_set (L : List En) (x y : En) : (L ++ [x]).set L.length y = L ++ [y] := by
  simp [List.set_append]

set_option maxRecDepth 100000 in
set_option maxHeartbeats 2000000 in
theorem h_set (hb lb mb : Nat) (S : List En) (k b : Int) (hk : I64 k) (w : World) (h : HRep w hb lb mb S) (hs : S.length ≤ 900) :
    Calls Try.prog 11 #[.pointer (some ⟨hb, 0, none⟩), .int .i64 k, .int .i64 b] w fun e w' => e = .returned (.tuple #[]) ∧ ∃ lb', HRep w' hb lb' mb (setS S (k, b)) ∧ (lb' = lb ∨ w.heap.size ≤ lb') ∧ Only (fun j => j = hb ∨ j = lb ∨ j = mb) w w' := by
  obtain ⟨L, D, v, h1, h2, h3⟩ := h
  have hlts := h1.lts
  obtain ⟨c0, c1, c2⟩ := three_cells h1.head
  have hsm : L.length ≤ 900 := by rw [h3.len]; exact hs
  have hml : L.length < maxLen := by unfold maxLen; omega
  rcases holds_cases h3 k with ⟨i, hi, e1, -⟩ | ⟨hn, hnS, -⟩
  · obtain ⟨cap, rfl, -, -, -, -, -⟩ := h1.row.some (by omega)
    obtain ⟨l1, -⟩ := h1.look_there i hi k e1
    have HH := Lib.hid h1
    have H2 := Lib.hid h2
    have H3 := Lib.hid h3
    have HI := Lib.hid hi
    have HE := Lib.hid e1
    have hne := h1.far.2.1 rfl
    obtain ⟨n, hn⟩ : ∃ n, n = L.length := ⟨_, rfl⟩
    rw [← hn] at c1 hi hsm
    have HN := Lib.hid hn
    have hkey : keyOf Try.prog 3 (.int .i64 k) = some (.int .i64 k) := Go.Maps.keyOf_int_mk Try.underlying3 hk
    have hiw : I64 (i : Int) := small64 i (by omega)
    have HKEY := Lib.hid hkey
    clear h1 h2 h3 e1 hn hkey
    go_enter Try.func11, Try.ntmps11
    go_wp2_with (first
      | (refine wpList_store_en rfl 40 (.tmp 44) (.tmp 43) rfl (by kernel_rfl) 40 lb i _ L HH.out.row HI.out (k, b) rfl rfl ?_; intro w3 row3 o3; have R3 := Lib.hid row3; have O3 := Lib.hid o3; clear row3 o3
         have d2 : w3.cell? ⟨hb, 2, none⟩ = some (.map (some mb)) := O3.out.cell c2 (fun e => hne.1 e.symm)
         have M3 : w3.ownsMap Try.prog 3 (plainElem Try.prog 3) mb L.length D := by
           obtain ⟨es, clock, hm, r⟩ := HH.out.map
           exact ⟨es, clock, O3.out.keep hm (fun e => hne.2 e.symm), r⟩
         obtain ⟨w5, m5, own5, t5⟩ := M3.store keyed Try.underlying61 hml HKEY.out (plainElem_int Try.underlying3 hiw)
         have OWN5 := Lib.hid own5
         have T5 := Lib.hid t5
         have TD := Lib.hid (M3.tidy keyed)
         clear M3 own5 t5))
    have o5 : Only (fun j => j = mb) w3 w5 := (Only.refl (fun j => j = mb) w3).grown T5.out.grown (fun k hk => .inl (by cases hk; rfl))
    have hfar := HH.out.far
    have H5 : HAt w5 hb lb mb (L.set i (k, b)) (D.put (.int .i64 k) (.lit (.int .i64 i))) (.slice (some ⟨lb, 0, none⟩) L.length cap) := by
      have hid := HH.out.idx.put TD.out HI.out b
      rw [HE.out] at hid
      refine ⟨o5.keep (O3.out.keep HH.out.head (fun e => hne.1 e.symm)) hlts.2.2.2, R3.out.only o5 (fun _ => hne.2), ?_, hid, ⟨hfar.1, hfar.2.1, ?_⟩, by rw [List.length_set]; exact HH.out.small⟩
      · have := ownsMap_tight OWN5.out
        rw [hid.size] at this
        exact this
      · have := hfar.2.2; have := O3.out.size; have := o5.size; omega
    have hup : UpP (atE (L.set i (k, b))) (L.set i (k, b)).length i := by
      rw [List.length_set]
      refine heap_set H2.out HI.out (fun j hj hji => ?_)
      simp [atE, List.getElem?_set, Ne.symm hji]
    have hhold : Holds (L.set i (k, b)) (setS S (k, b)) := by
      have := H3.out.put HI.out b
      rw [HE.out] at this
      exact this
    have O5 : Hid (Only (fun j => j = hb ∨ j = lb ∨ j = mb) w w5) := (O3.out.mono (fun _ h => .inr (.inl h))).trans o5 (fun _ _ h => .inr (.inr h))
    have HO := Lib.hid hhold
    refine (h_settle hb lb mb _ _ _ _ (show HAt w5 hb lb mb _ _ _ from H5) i (by rw [List.length_set]; exact HI.out) hup).mono ?_
    rintro e w6 ⟨rfl, L6, ⟨D6, h6⟩, hp6, p6, o6⟩
    have H6 := Lib.hid (show HRep w6 hb lb mb (setS S (k, b)) from ⟨L6, D6, _, h6, hp6, ⟨p6.trans HO.out.perm, HO.out.sorted, HO.out.nd⟩⟩)
    have O6 := Lib.hid (O5.out.trans o6 (fun _ _ h => .inr h))
    clear H5 hup hhold h6 hp6 p6 o6 o5
    go_wp2
    go_end0
    exact ⟨rfl, lb, H6.out, .inl rfl, O6.out⟩
  · obtain ⟨hnh, l1⟩ := h1.look_none k hk hn
    obtain ⟨ao, cap, rfl, hcap, -⟩ := h1.row.len
    have HH := Lib.hid h1
    have H2 := Lib.hid h2
    have H3 := Lib.hid h3
    have HNS := Lib.hid hnS
    have HNH := Lib.hid hnh
    have hfz : ∀ j, w.frozen? ⟨hb, j, none⟩ = false := fun j => free_of_row h1.head
    have hkey : keyOf Try.prog 3 (.int .i64 k) = some (.int .i64 k) := Go.Maps.keyOf_int_mk Try.underlying3 hk
    have HKEY := Lib.hid hkey
    have hiw : I64 (L.length : Int) := small64 _ (by omega)
    obtain ⟨i0, hi, hz0, hz1, hz2⟩ := info_parts info40
    obtain ⟨n, hn'⟩ : ∃ n, n = L.length := ⟨_, rfl⟩
    rw [← hn'] at c1 hsm
    have HN := Lib.hid hn'
    clear h1 h2 h3 hn hnS hnh hkey hn'
    have HM : Hid (∀ x : Obj, Only (fun _ => False) w (w.alloc x)) := fun x => (Only.refl _ _).alloc x
    go_enter Try.func11, Try.ntmps11
    have hbk : ∀ g, (Value.slice ao n cap).ownBlock = some g → g = lb := fun g e => RowE.block HH.out.row (by rw [← HN.out]; exact e)
    have HBK := Lib.hid hbk
    clear hbk
    have hnx : n * 2 < 100000 := by omega
    go_wp2_with (first
      | (at_builtin; refine wpList_append_lies _ rfl (.tmp 30) (.tmp 32) 51 rfl 0 40 i0 (.agg #[.int .i64 0, .int .i64 0]) 2 16 Try.underlying51 hi hz0 hz1 hz2 rfl (by decide) _ n (flat L) rfl (by rw [HN.out]; exact (HH.out.row.only (HM.out _) (fun _ => id)).owns) ⟨w.heap.size, 0, none⟩ 1 1 [.int .i64 0, .int .i64 0] rfl rfl (new_two w _ _ _) (by simp [Value.oneCell']) (by decide) (by unfold maxLen; omega) (by omega) (Nat.zero_le _) _ rfl ?_
         intro g c3 w3 own3 hgr hg hlt
         have hg' : g = lb ∨ g = w.heap.size + 1 := by
           rcases hg with hg | hg
           · exact .inl (HBK.out g hg)
           · right; simpa using hg
         have G := Lib.hid hg'
         have gne : g ≠ hb ∧ g ≠ mb := by
           rcases hg with hg | hg
           · have := HBK.out g hg
             subst this
             exact HH.out.far.2.1 (by rw [← HN.out]; exact hg)
           · have hg2 : g = w.heap.size + 1 := by simpa using hg
             omega
         have O3 : Hid (Only (fun j => (Value.slice ao n cap).ownBlock = some j) w w3) := ((HM.out _).mono (fun _ h => h.elim)).grown hgr (fun j hj => .inl hj)
         have R3 : RowE w3 40 g (.slice (some ⟨g, 0, none⟩) (n + 1) c3) (L ++ [(0, 0)]) := by
           refine RowE.of_owns (base := 0) ?_
           rw [flat_append]
           exact own3
         have noh : ¬ ((Value.slice ao n cap).ownBlock = some hb) := fun e => (HH.out.far.2.1 (by rw [← HN.out, ← HBK.out hb e]; exact e)).1 (HBK.out hb e).symm
         have nom : ¬ ((Value.slice ao n cap).ownBlock = some mb) := fun e => (HH.out.far.2.1 (by rw [← HN.out, ← HBK.out mb e]; exact e)).2 (HBK.out mb e).symm
         have head3 := O3.out.keep HH.out.head noh
         have f3 : w3.frozen? ⟨hb, 1, none⟩ = false := free_of_row head3
         obtain ⟨d0, d1, d2⟩ := three_cells head3
         have o4 : Only (fun j => j = hb) w3 (w3.setCell ⟨hb, 1, none⟩ (.slice (some ⟨g, 0, none⟩) (n + 1) c3)) := Only.setAt (Only.refl (fun j => j = hb) w3) 1 _
         have O4 := Lib.hid o4
         have R4 := Lib.hid (R3.only o4 (fun _ => gne.1))
         have h4 : (w3.setCell ⟨hb, 1, none⟩ (.slice (some ⟨g, 0, none⟩) (n + 1) c3)).heap[hb]? = some (.cells #[.func (.func 10) #[] #[], .slice (some ⟨g, 0, none⟩) (n + 1) c3, .map (some mb)] 63 (0, 0)) := by
           have := hp_same (j := 1) head3 (.slice (some ⟨g, 0, none⟩) (n + 1) c3)
           simpa using this
         have H4 := Lib.hid h4
         have NOM := Lib.hid nom
         have NOH := Lib.hid noh
         rw [← HN.out] at d1
         clear own3 hgr hg R3 o4 head3 noh nom h4)
      | (refine wpList_store_en rfl 40 (.tmp 44) (.tmp 43) rfl (by kernel_rfl) 40 g n _ (L ++ [(0, 0)]) R4.out (by rw [HN.out]; simp) (k, b) rfl rfl ?_
         intro w5 row5 o5
         have R5 : Hid (RowE w5 40 g (.slice (some ⟨g, 0, none⟩) (n + 1) c3) (L ++ [(k, b)])) := by rw [HN.out] at row5 ⊢; rw [append_set] at row5; exact row5
         have O5 := Lib.hid o5
         have H5 := Lib.hid (o5.keep H4.out (fun e => gne.1 e.symm))
         have d5 : w5.cell? ⟨hb, 2, none⟩ = some (.map (some mb)) := (three_cells H5.out).2.2
         have M5 : w5.ownsMap Try.prog 3 (plainElem Try.prog 3) mb L.length D := by
           obtain ⟨es, clock, hm, r⟩ := HH.out.map
           exact ⟨es, clock, o5.keep (O4.out.keep (O3.out.keep hm NOM.out) (fun e => hlts.2.2.2 e.symm)) (fun e => gne.2 e.symm), r⟩
         obtain ⟨w6, m6, own6, t6⟩ := M5.store keyed Try.underlying61 hml HKEY.out (plainElem_int Try.underlying3 hiw)
         rw [← HN.out] at m6
         have OWN6 := Lib.hid own6
         have T6 := Lib.hid t6
         have TD := Lib.hid (M5.tidy keyed)
         clear M5 own6 t6 row5 o5))
    have o6 : Only (fun j => j = mb) w5 w6 := (Only.refl (fun j => j = mb) w5).grown T6.out.grown (fun k hk => .inl (by cases hk; rfl))
    have hlen : (L ++ [(k, b)]).length = n + 1 := by rw [HN.out]; simp
    have hsz : w3.heap.size ≤ w5.heap.size := by have := O4.out.size; have := O5.out.size; omega
    have H6 : HAt w6 hb g mb (L ++ [(k, b)]) (D.put (.int .i64 k) (.lit (.int .i64 L.length))) (.slice (some ⟨g, 0, none⟩) (n + 1) c3) := by
      have hid := HH.out.idx.push (x := (k, b)) TD.out HNH.out hk
      refine ⟨o6.keep H5.out hlts.2.2.2, R5.out.only o6 (fun _ => gne.2), ?_, hid, ⟨hlts.2.2.2, fun _ => gne, ?_⟩, by rw [hlen]; omega⟩
      · have := ownsMap_tight OWN6.out
        rw [hid.size] at this
        exact this
      · have := o6.size; omega
    have hup : UpP (atE (L ++ [(k, b)])) (L ++ [(k, b)]).length n := by
      rw [hlen, HN.out]
      exact heap_push H2.out (fun j hj => by simp [atE, List.getElem?_append_left hj])
    have hhold : Holds (L ++ [(k, b)]) (setS S (k, b)) := H3.out.push HNS.out
    have O6 : Hid (Only (fun j => j = hb ∨ j = lb ∨ j = mb) w w6) := by
      refine (((O3.out.mono (fun j hj => .inr (.inl (HBK.out j hj)))).trans O4.out (fun j hj h => .inl h)).trans O5.out (fun j hj h => ?_)).trans o6 (fun j hj h => .inr (.inr h))
      have := G.out
      rcases this with e | e
      · exact .inr (.inl (h.trans e))
      · omega
    have HO := Lib.hid hhold
    refine (h_settle hb g mb _ _ _ _ H6 n (by rw [hlen]; omega) hup).mono ?_
    rintro e w7 ⟨rfl, L7, ⟨D7, h7⟩, hp7, p7, o7⟩
    have H7 := Lib.hid (show HRep w7 hb g mb (setS S (k, b)) from ⟨L7, D7, _, h7, hp7, ⟨p7.trans HO.out.perm, HO.out.sorted, HO.out.nd⟩⟩)
    have O7 : Hid (Only (fun j => j = hb ∨ j = lb ∨ j = mb) w w7) := O6.out.trans o7 (fun j hj h => by
      rcases h with h | h
      · rcases G.out with e | e
        · exact .inr (.inl (h.trans e))
        · omega
      · exact .inr (.inr h))
    have G' : Hid (g = lb ∨ w.heap.size ≤ g) := by
      rcases G.out with e | e
      · exact .inl e
      · exact .inr (by omega)
    clear H6 hup hhold h7 hp7 p7 o7 o6
    go_wp2
    go_end0
    exact ⟨rfl, g, H7.out, G'.out, O7.out⟩

end Go.Proofs.Ytnhiohgcoifniaa
