/- How the acts are read out of memory; the contract of done. -/
import Derived.Test.YtnhiohgcoifniaaH9
import Derived.Deep.SlicePairs
import Derived.ProofKit
import Derived.OpenShut
import Derived.ChangeOld
import Derived.Below
namespace Go.Proofs.Ytnhiohgcoifniaa
open Go.ChangeShapes Go.WideShapes Go.ChangeAt Go.RowKit Go.Gav Go.Deep

theorem own : ownKnob Try.prog.godebug = none := by kernel_rfl
theorem laidOut : laidOutB Try.prog = true := by kernel_rfl

theorem addr_add (b off j : Nat) : (⟨b, off, none⟩ : Addr).add j = ⟨b, off + j, none⟩ := by simp [Addr.add]

/-- A slice of acts (a kind, a key, a number each), as it lies in memory. -/
def IsActs (w : World) (a : Option Addr) (len : Nat) (D : Nat → Int) (X : Nat → Int × Int) : Prop :=
  0 < len → ∃ b off, a = some ⟨b, off, none⟩ ∧ ∀ i, i < len → w.cell? ⟨b, off + i * 3, none⟩ = some (.int .u8 (D i)) ∧ w.cell? ⟨b, off + i * 3 + 1, none⟩ = some (.int .i64 (X i).1) ∧
    w.cell? ⟨b, off + i * 3 + 2, none⟩ = some (.int .i64 (X i).2) ∧ 0 ≤ D i ∧ D i ≤ 255 ∧ I64 (X i).1

theorem open_acts {H : Type} {enc : TypeId × Value → H} {W : World} {base : Nat} {spare : Nat → Bool} {held : Bool} {fuel : Nat} {a : Option Addr} {len cap : Nat} {x : DataW H × List MemPlace}
    (h : DataW.trod enc Try.prog W base spare held fuel 22 [.slice a len cap] = some x) : ∃ D X, IsActs W a len D X := by
  rcases open_slice Try.underlying22 h with ⟨hcs, _⟩ | ⟨ad, len', cap', m, n, Dd, Pl, hcs, _, hl, _, hm, _, hx⟩
  · simp at hcs
    obtain ⟨rfl, rfl, rfl⟩ := hcs
    exact ⟨fun _ => 0, fun _ => (0, 0), fun h => by omega⟩
  · simp at hcs
    obtain ⟨rfl, rfl, rfl⟩ := hcs
    have hlm : len ≤ m := by rw [hm]; split <;> omega
    have ce : Try.prog.cellsOf 29 = 3 := by kernel_rfl
    obtain ⟨b, off, spot⟩ := ad
    by_cases hz : 0 < len
    case neg => exact ⟨fun _ => 0, fun _ => (0, 0), fun h => absurd h hz⟩
    have hspot : spot = none := by
      obtain ⟨cs', h1, h2⟩ := hx 0 (by omega)
      rw [ce] at h1
      obtain ⟨_, hlen, hcell⟩ := World.cells?_some h1
      match cs', hlen with
      | v0 :: r, _ =>
        have e0 := hcell 0 (by omega)
        have e1 : W.cell? ((({ block := b, off := off, spot := spot } : Addr).add (0 * 3)).add 0) = some v0 := by simpa using e0
        simpa [Addr.add] using World.cell?_spot e1
    subst hspot
    have each : ∀ i, i < len → ∃ q : Int × Int × Int, W.cell? ⟨b, off + i * 3, none⟩ = some (.int .u8 q.1) ∧ W.cell? ⟨b, off + i * 3 + 1, none⟩ = some (.int .i64 q.2.1) ∧
        W.cell? ⟨b, off + i * 3 + 2, none⟩ = some (.int .i64 q.2.2) ∧ 0 ≤ q.1 ∧ q.1 ≤ 255 ∧ I64 q.2.1 := by
      intro i hi
      obtain ⟨cs', h1, h2⟩ := hx i (by omega)
      rw [ce] at h1
      obtain ⟨_, hlen, hcell⟩ := World.cells?_some h1
      obtain ⟨xs, k, hk, hxy, _, hxl, hf⟩ := DataW.trod_struct Try.underlying29 h2
      match xs, hxl, cs', hlen with
      | [y0, y1, y2], _, [v0, v1, v2], _ =>
        have g0 := hf 0 _ rfl
        have g1 := hf 1 _ rfl
        have g2 := hf 2 _ rfl
        have e0 := hcell 0 (by omega)
        have e1 := hcell 1 (by omega)
        have e2 := hcell 2 (by omega)
        simp at g0 g1 g2
        rw [addr_add, addr_add] at e0 e1 e2
        have cf : Try.prog.cellsOf 5 = 1 := by kernel_rfl
        have cg : Try.prog.cellsOf 3 = 1 := by kernel_rfl
        rw [cf] at g0
        rw [cg] at g1 g2
        simp at g0 g1 g2
        obtain ⟨z0, ez0, -, w0⟩ := DataW.trod_int Try.underlying5 g0
        obtain ⟨z1, ez1, -, w1⟩ := DataW.trod_int Try.underlying3 g1
        obtain ⟨z2, ez2, -, w2⟩ := DataW.trod_int Try.underlying3 g2
        simp at ez0 ez1 ez2
        have b0 := bounds_u8 w0
        refine ⟨(z0, z1, z2), ?_, ?_, ?_, b0.1, b0.2, w1⟩
        · rw [← ez0]; simpa using e0
        · rw [← ez1]; simpa using e1
        · rw [← ez2]; simpa using e2
    obtain ⟨q, hq⟩ := choose_lt each
    exact ⟨fun i => (q i).1, fun i => ((q i).2.1, (q i).2.2), fun h0 => ⟨b, off, rfl, fun i hi => hq i hi⟩⟩

/-- What an act makes of a heap's entries. -/
def doS (S : List En) (d : Int) (x : En) : List En :=
  if d % 8 < 4 then setS S x else if d % 8 = 4 then delS S x.1 else if d % 8 = 6 then S.tail else S

theorem doS_length (S : List En) (d : Int) (x : En) : (doS S d x).length ≤ S.length + 1 := by
  unfold doS
  split
  · exact setS_length S x
  · split
    · have := delS_length S x.1; omega
    · split
      · simp; omega
      · omega

theorem HRep.range {w : World} {hb lb mb : Nat} {S : List En} (h : HRep w hb lb mb S) : ∀ x ∈ S, I64 x.1 := by
  obtain ⟨L, D, v, h1, -, h3⟩ := h
  intro x hx
  obtain ⟨i, hi, e⟩ := List.getElem_of_mem (h3.perm.mem_iff.2 hx)
  have := h1.idx.range i hi
  rwa [atE_get L i hi, e] at this

open Go.BigFrame in
set_option maxRecDepth 100000 in
set_option maxHeartbeats 1000000 in
theorem h_done (hb lb mb : Nat) (S : List En) (d k b : Int) (hd : 0 ≤ d) (hd2 : d ≤ 255) (hk : I64 k) (w : World) (h : HRep w hb lb mb S) (hs : S.length ≤ 900) :
    Calls Try.prog 21 #[.pointer (some ⟨hb, 0, none⟩), .agg #[.int .u8 d, .int .i64 k, .int .i64 b]] w fun e w' => e = .returned (.tuple #[]) ∧
      ∃ lb', HRep w' hb lb' mb (doS S d (k, b)) ∧ (lb' = lb ∨ w.heap.size ≤ lb') ∧ Only (fun j => j = hb ∨ j = lb ∨ j = mb) w w' := by
  have HW := Lib.hid (h.only ((Only.refl (fun _ => False) w).alloc (.cells #[.int .u8 d, .int .i64 k, .int .i64 b] 29)) id id id)
  have OO : Hid (Only (fun j => j = hb ∨ j = lb ∨ j = mb) w (w.alloc (.cells #[.int .u8 d, .int .i64 k, .int .i64 b] 29))) := (Only.refl _ _).alloc _
  have HR := Lib.hid h.range
  clear h
  have h8 : d % 8 < 4 ∨ d % 8 = 4 ∨ d % 8 = 6 ∨ (d % 8 = 5 ∨ d % 8 = 7) := by omega
  rcases h8 with h8 | h8 | h8 | h8
  · have e8 : doS S d (k, b) = setS S (k, b) := by unfold doS; rw [if_pos h8]
    have E8 := Lib.hid e8
    clear e8
    have h4 : d % 8 = 0 ∨ d % 8 = 1 ∨ d % 8 = 2 ∨ d % 8 = 3 := by omega
    clear h8
    rcases h4 with h4 | h4 | h4 | h4
    all_goals
      go_enter Try.func21, Try.ntmps21
      go_wp2_with (fail)
      refine (h_set hb lb mb S k b hk _ HW.out hs).mono ?_
      rintro e w2 ⟨rfl, lb', h2, g2, o2⟩
      have g2' : lb' = lb ∨ w.heap.size ≤ lb' := by
        rcases g2 with g2 | g2
        · exact .inl g2
        · right; simp at g2; omega
      have H2 := Lib.hid (And.intro h2 (And.intro g2' o2))
      clear h2 g2 g2' o2
      go_wp2
      go_end0
      exact ⟨rfl, lb', by rw [E8.out]; exact H2.out.1, H2.out.2.1, OO.out.trans H2.out.2.2 (fun _ _ h => h)⟩
  · have e8 : doS S d (k, b) = delS S k := by unfold doS; rw [if_neg (by omega), if_pos h8]
    have E8 := Lib.hid e8
    clear e8
    go_enter Try.func21, Try.ntmps21
    go_wp2_with (fail)
    refine (h_del hb lb mb S k hk _ HW.out).mono ?_
    rintro e w2 ⟨rfl, h2, o2⟩
    have H2 := Lib.hid (And.intro h2 o2)
    clear h2 o2
    go_wp2
    go_end0
    exact ⟨rfl, lb, by rw [E8.out]; exact H2.out.1, .inl rfl, OO.out.trans H2.out.2 (fun _ _ h => h)⟩
  · have e8 : doS S d (k, b) = S.tail := by unfold doS; rw [if_neg (by omega), if_neg (by omega), if_pos h8]
    have E8 := Lib.hid e8
    clear e8
    go_enter Try.func21, Try.ntmps21
    go_wp2_with (fail)
    refine (h_pop hb lb mb S HR.out _ HW.out).mono ?_
    rintro e w2 ⟨rfl, h2, o2⟩
    have H2 := Lib.hid (And.intro h2 o2)
    clear h2 o2
    go_wp2
    go_end0
    exact ⟨rfl, lb, by rw [E8.out]; exact H2.out.1, .inl rfl, OO.out.trans H2.out.2 (fun _ _ h => h)⟩
  · have e8 : doS S d (k, b) = S := by unfold doS; rw [if_neg (by omega), if_neg (by omega), if_neg (by omega)]
    have E8 := Lib.hid e8
    clear e8
    rcases h8 with h8 | h8
    all_goals
      go_enter Try.func21, Try.ntmps21
      go_wp2
      go_end0
      exact ⟨rfl, lb, by rw [E8.out]; exact HW.out, .inl rfl, OO.out⟩

end Go.Proofs.Ytnhiohgcoifniaa
