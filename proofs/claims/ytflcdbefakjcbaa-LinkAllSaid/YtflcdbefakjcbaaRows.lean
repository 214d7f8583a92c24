/-
  No cell of these rows narrows 'for every input' (looked for: loops, veiled, ifaces, maps, wideKeys, modest, calm, conditions, laid).
  DERIVED. THE GIVEN ROWS OF THIS SEAT. 9 by the template 'for every input the law returns true; each argument reads behind the call as it read before'; 0 by the template 'total and deterministic' (their statements: YtflcdbefakjcbaaTotals.lean).
  GIVEN WITH THE SEED: the statements are not yours to turn. If you find one false, say at which input.
  Laid BY PROGRAM, IN A SANDBOX (cutbox-rows.mjs): the forced cells as the released guide's own fill.sh prints them over the translation 27dfd6cb5c140ebe… (all of the seat's roots in one cut). By AI agents, Wed Nov 11 2026. No macro, syntax, notation, axiom, sorry.
-/
import Derived.Test.YtflcdbefakjcbaaChecked
import GoSem.Claim
import GoSem.ClaimJoined
import GoSem.ClaimMapViews
import Derived.JoinedTies
import Derived.KernelRfl
namespace Go.Proofs.Ytflcdbefakjcbaa
/- THE CELL 'sum', in the pinned program and in every row, IS THE sha256 OF THE DUMP (.gsa) THAT YtflcdbefakjcbaaProg.lean LOADS. Nothing in Lean hashes anything: it is a label: what it is worth is what the hold of that sum in a sandbox is worth. -/
noncomputable def Try.pinned : Pinned := { name := "ytflcdbefakjcbaa", sum := "27dfd6cb5c140ebe3b40c22e51b516472cc9b8c45ca0bdbcc96fcf476bccdf34", checked := Try.checked }
namespace Rows
def none {H : Type} : Left H := { results := [], args := [] }

/-- 'gavottelaw05.QueueOrder': WHATEVER THE INPUT: true; the input reads as it did. -/
def queueOrderSpec : ChangeSpec := { name := "queueOrder", fn := fun _ => fun
  | [d1, d2] => { results := [.lit (.bool true)], args := [d1, d2] }
  | _ => none }
def queueOrderRow : OpenClaim := { program := "ytflcdbefakjcbaa", sum := "27dfd6cb5c140ebe3b40c22e51b516472cc9b8c45ca0bdbcc96fcf476bccdf34", func := "gavotte/gavottelaw05.QueueOrder", spec := "queueOrder", plainKeys := false, apart := false }
def QueueOrderSaid : Prop := queueOrderRow.holds Try.pinned (OpenSpec.ofChange queueOrderSpec)

/-- ITS FALSE NEIGHBOUR: 'it returns false'. Refute it at one input. -/
def queueOrderWrong : ChangeSpec := { name := "queueOrder", fn := fun _ => fun
  | [d1, d2] => { results := [.lit (.bool false)], args := [d1, d2] }
  | _ => none }
def QueueOrderWrongFalsely : Prop := queueOrderRow.holds Try.pinned (OpenSpec.ofChange queueOrderWrong)

/-- 'gavottelaw05.QueuePlays': WHATEVER THE INPUT: true; the input reads as it did. -/
def queuePlaysSpec : ChangeSpec := { name := "queuePlays", fn := fun _ => fun
  | [d1, d2] => { results := [.lit (.bool true)], args := [d1, d2] }
  | _ => none }
def queuePlaysRow : OpenClaim := { program := "ytflcdbefakjcbaa", sum := "27dfd6cb5c140ebe3b40c22e51b516472cc9b8c45ca0bdbcc96fcf476bccdf34", func := "gavotte/gavottelaw05.QueuePlays", spec := "queuePlays", unfollowed := true, recurses := true, plainKeys := false, apart := false }
def QueuePlaysSaid : Prop := queuePlaysRow.holds Try.pinned (OpenSpec.ofChange queuePlaysSpec)

/-- ITS FALSE NEIGHBOUR: 'it returns false'. Refute it at one input. -/
def queuePlaysWrong : ChangeSpec := { name := "queuePlays", fn := fun _ => fun
  | [d1, d2] => { results := [.lit (.bool false)], args := [d1, d2] }
  | _ => none }
def QueuePlaysWrongFalsely : Prop := queuePlaysRow.holds Try.pinned (OpenSpec.ofChange queuePlaysWrong)

/-- 'gavottelaw05.QueueNil': WHATEVER THE INPUT: true; the input reads as it did. -/
def queueNilSpec : ChangeSpec := { name := "queueNil", fn := fun _ => fun
  | [d] => { results := [.lit (.bool true)], args := [d] }
  | _ => none }
def queueNilRow : OpenClaim := { program := "ytflcdbefakjcbaa", sum := "27dfd6cb5c140ebe3b40c22e51b516472cc9b8c45ca0bdbcc96fcf476bccdf34", func := "gavotte/gavottelaw05.QueueNil", spec := "queueNil", unfollowed := true, recurses := true, plainKeys := false, apart := false }
def QueueNilSaid : Prop := queueNilRow.holds Try.pinned (OpenSpec.ofChange queueNilSpec)

/-- ITS FALSE NEIGHBOUR: 'it returns false'. Refute it at one input. -/
def queueNilWrong : ChangeSpec := { name := "queueNil", fn := fun _ => fun
  | [d] => { results := [.lit (.bool false)], args := [d] }
  | _ => none }
def QueueNilWrongFalsely : Prop := queueNilRow.holds Try.pinned (OpenSpec.ofChange queueNilWrong)

/-- 'gavottelaw05.QueueCopies': WHATEVER THE INPUT: true; the input reads as it did. -/
def queueCopiesSpec : ChangeSpec := { name := "queueCopies", fn := fun _ => fun
  | [d1, d2, d3] => { results := [.lit (.bool true)], args := [d1, d2, d3] }
  | _ => none }
def queueCopiesRow : OpenClaim := { program := "ytflcdbefakjcbaa", sum := "27dfd6cb5c140ebe3b40c22e51b516472cc9b8c45ca0bdbcc96fcf476bccdf34", func := "gavotte/gavottelaw05.QueueCopies", spec := "queueCopies", unfollowed := true, recurses := true, plainKeys := false, apart := false }
def QueueCopiesSaid : Prop := queueCopiesRow.holds Try.pinned (OpenSpec.ofChange queueCopiesSpec)

/-- ITS FALSE NEIGHBOUR: 'it returns false'. Refute it at one input. -/
def queueCopiesWrong : ChangeSpec := { name := "queueCopies", fn := fun _ => fun
  | [d1, d2, d3] => { results := [.lit (.bool false)], args := [d1, d2, d3] }
  | _ => none }
def QueueCopiesWrongFalsely : Prop := queueCopiesRow.holds Try.pinned (OpenSpec.ofChange queueCopiesWrong)

/-- 'gavottelaw21.LinkHeads': WHATEVER THE INPUT: true; the input reads as it did. -/
def linkHeadsSpec : ChangeSpec := { name := "linkHeads", fn := fun _ => fun
  | [d1, d2] => { results := [.lit (.bool true)], args := [d1, d2] }
  | _ => none }
def linkHeadsRow : OpenClaim := { program := "ytflcdbefakjcbaa", sum := "27dfd6cb5c140ebe3b40c22e51b516472cc9b8c45ca0bdbcc96fcf476bccdf34", func := "gavotte/gavottelaw21.LinkHeads", spec := "linkHeads", unfollowed := true, recurses := true, plainKeys := false, apart := false }
def LinkHeadsSaid : Prop := linkHeadsRow.holds Try.pinned (OpenSpec.ofChange linkHeadsSpec)

/-- ITS FALSE NEIGHBOUR: 'it returns false'. Refute it at one input. -/
def linkHeadsWrong : ChangeSpec := { name := "linkHeads", fn := fun _ => fun
  | [d1, d2] => { results := [.lit (.bool false)], args := [d1, d2] }
  | _ => none }
def LinkHeadsWrongFalsely : Prop := linkHeadsRow.holds Try.pinned (OpenSpec.ofChange linkHeadsWrong)

/-- 'gavottelaw21.LinkNil': WHATEVER THE INPUT: true; the input reads as it did. -/
def linkNilSpec : ChangeSpec := { name := "linkNil", fn := fun _ => fun
  | [d1, d2, d3] => { results := [.lit (.bool true)], args := [d1, d2, d3] }
  | _ => none }
def linkNilRow : OpenClaim := { program := "ytflcdbefakjcbaa", sum := "27dfd6cb5c140ebe3b40c22e51b516472cc9b8c45ca0bdbcc96fcf476bccdf34", func := "gavotte/gavottelaw21.LinkNil", spec := "linkNil", unfollowed := true, recurses := true, plainKeys := false, apart := false }
def LinkNilSaid : Prop := linkNilRow.holds Try.pinned (OpenSpec.ofChange linkNilSpec)

/-- ITS FALSE NEIGHBOUR: 'it returns false'. Refute it at one input. -/
def linkNilWrong : ChangeSpec := { name := "linkNil", fn := fun _ => fun
  | [d1, d2, d3] => { results := [.lit (.bool false)], args := [d1, d2, d3] }
  | _ => none }
def LinkNilWrongFalsely : Prop := linkNilRow.holds Try.pinned (OpenSpec.ofChange linkNilWrong)

/-- 'gavottelaw21.LinkOrder': WHATEVER THE INPUT: true; the input reads as it did. -/
def linkOrderSpec : ChangeSpec := { name := "linkOrder", fn := fun _ => fun
  | [d1, d2, d3] => { results := [.lit (.bool true)], args := [d1, d2, d3] }
  | _ => none }
def linkOrderRow : OpenClaim := { program := "ytflcdbefakjcbaa", sum := "27dfd6cb5c140ebe3b40c22e51b516472cc9b8c45ca0bdbcc96fcf476bccdf34", func := "gavotte/gavottelaw21.LinkOrder", spec := "linkOrder", unfollowed := true, recurses := true, plainKeys := false, apart := false }
def LinkOrderSaid : Prop := linkOrderRow.holds Try.pinned (OpenSpec.ofChange linkOrderSpec)

/-- ITS FALSE NEIGHBOUR: 'it returns false'. Refute it at one input. -/
def linkOrderWrong : ChangeSpec := { name := "linkOrder", fn := fun _ => fun
  | [d1, d2, d3] => { results := [.lit (.bool false)], args := [d1, d2, d3] }
  | _ => none }
def LinkOrderWrongFalsely : Prop := linkOrderRow.holds Try.pinned (OpenSpec.ofChange linkOrderWrong)

/-- 'gavottelaw21.LinkPlays': WHATEVER THE INPUT: true; the input reads as it did. -/
def linkPlaysSpec : ChangeSpec := { name := "linkPlays", fn := fun _ => fun
  | [d1, d2, d3] => { results := [.lit (.bool true)], args := [d1, d2, d3] }
  | _ => none }
def linkPlaysRow : OpenClaim := { program := "ytflcdbefakjcbaa", sum := "27dfd6cb5c140ebe3b40c22e51b516472cc9b8c45ca0bdbcc96fcf476bccdf34", func := "gavotte/gavottelaw21.LinkPlays", spec := "linkPlays", unfollowed := true, recurses := true, plainKeys := false, apart := false }
def LinkPlaysSaid : Prop := linkPlaysRow.holds Try.pinned (OpenSpec.ofChange linkPlaysSpec)

/-- ITS FALSE NEIGHBOUR: 'it returns false'. Refute it at one input. -/
def linkPlaysWrong : ChangeSpec := { name := "linkPlays", fn := fun _ => fun
  | [d1, d2, d3] => { results := [.lit (.bool false)], args := [d1, d2, d3] }
  | _ => none }
def LinkPlaysWrongFalsely : Prop := linkPlaysRow.holds Try.pinned (OpenSpec.ofChange linkPlaysWrong)

/-- 'gavottelaw21.LinkAll': WHATEVER THE INPUT: true; the input reads as it did. -/
def linkAllSpec : ChangeSpec := { name := "linkAll", fn := fun _ => fun
  | [d1, d2, d3] => { results := [.lit (.bool true)], args := [d1, d2, d3] }
  | _ => none }
def linkAllRow : OpenClaim := { program := "ytflcdbefakjcbaa", sum := "27dfd6cb5c140ebe3b40c22e51b516472cc9b8c45ca0bdbcc96fcf476bccdf34", func := "gavotte/gavottelaw21.LinkAll", spec := "linkAll", unfollowed := true, recurses := true, plainKeys := false, apart := false }
def LinkAllSaid : Prop := linkAllRow.holds Try.pinned (OpenSpec.ofChange linkAllSpec)

/-- ITS FALSE NEIGHBOUR: 'it returns false'. Refute it at one input. -/
def linkAllWrong : ChangeSpec := { name := "linkAll", fn := fun _ => fun
  | [d1, d2, d3] => { results := [.lit (.bool false)], args := [d1, d2, d3] }
  | _ => none }
def LinkAllWrongFalsely : Prop := linkAllRow.holds Try.pinned (OpenSpec.ofChange linkAllWrong)

/- THE SECOND FORM. 'bulk': how many values and letters a reading holds, each counted each time it is reached (what is shared counts as often as it is met; a slice's spare places count too). A statement '..UptoSaid' is the law's where the arguments, and the package variables that the reading takes, are together of bulk at most 1048576: NARROWER than '..Said'. Prove '..Said' where nothing that the law and all that it calls make is longer than what came in: it says more and counts as full. Else prove '..UptoSaid'. A law counts once. -/
mutual
def uptoBulk {H : Type} : DataW H → Nat
  | .lit (.string bytes) => bytes.length + 1
  | .lit _ => 1
  | .nil => 1
  | .ptr d => uptoBulk d + 1
  | .slice elems spare => uptoBulkAll elems + uptoBulkAll spare + 1
  | .agg parts => uptoBulkAll parts + 1
  | .iface _ d => uptoBulk d + 1
  | .map entries => uptoBulkEntries entries + 1
  | .held _ => 1
def uptoBulkAll {H : Type} : List (DataW H) → Nat
  | [] => 0
  | d :: r => uptoBulk d + uptoBulkAll r
def uptoBulkEntries {H : Type} : List (Lit × DataW H) → Nat
  | [] => 0
  | x :: r => uptoBulkEntry x + uptoBulkEntries r
def uptoBulkEntry {H : Type} : Lit × DataW H → Nat
  | (.string bytes, d) => bytes.length + uptoBulk d + 1
  | (_, d) => uptoBulk d + 1
 end
def uptoSmall : (H : Type) → List (DataW H) → Bool := fun _ ds => decide (uptoBulkAll ds ≤ 1048576)
def OpenSpec.upto (s : _root_.Go.ChangeSpec) : _root_.Go.OpenSpec := { _root_.Go.OpenSpec.ofChange s with cond := some uptoSmall }

/-- 'gavottelaw05.QueueOrder', WHERE WHAT IT READS IS OF BULK AT MOST 1048576: true; the input reads as it did. -/
def queueOrderUptoRow : OpenClaim := { program := "ytflcdbefakjcbaa", sum := "27dfd6cb5c140ebe3b40c22e51b516472cc9b8c45ca0bdbcc96fcf476bccdf34", func := "gavotte/gavottelaw05.QueueOrder", spec := "queueOrder", plainKeys := false, apart := false, narrowed := true }
def QueueOrderUptoSaid : Prop := queueOrderUptoRow.holds Try.pinned (OpenSpec.upto queueOrderSpec)

/-- 'gavottelaw05.QueuePlays', WHERE WHAT IT READS IS OF BULK AT MOST 1048576: true; the input reads as it did. -/
def queuePlaysUptoRow : OpenClaim := { program := "ytflcdbefakjcbaa", sum := "27dfd6cb5c140ebe3b40c22e51b516472cc9b8c45ca0bdbcc96fcf476bccdf34", func := "gavotte/gavottelaw05.QueuePlays", spec := "queuePlays", unfollowed := true, recurses := true, plainKeys := false, apart := false, narrowed := true }
def QueuePlaysUptoSaid : Prop := queuePlaysUptoRow.holds Try.pinned (OpenSpec.upto queuePlaysSpec)

/-- 'gavottelaw05.QueueNil', WHERE WHAT IT READS IS OF BULK AT MOST 1048576: true; the input reads as it did. -/
def queueNilUptoRow : OpenClaim := { program := "ytflcdbefakjcbaa", sum := "27dfd6cb5c140ebe3b40c22e51b516472cc9b8c45ca0bdbcc96fcf476bccdf34", func := "gavotte/gavottelaw05.QueueNil", spec := "queueNil", unfollowed := true, recurses := true, plainKeys := false, apart := false, narrowed := true }
def QueueNilUptoSaid : Prop := queueNilUptoRow.holds Try.pinned (OpenSpec.upto queueNilSpec)

/-- 'gavottelaw05.QueueCopies', WHERE WHAT IT READS IS OF BULK AT MOST 1048576: true; the input reads as it did. -/
def queueCopiesUptoRow : OpenClaim := { program := "ytflcdbefakjcbaa", sum := "27dfd6cb5c140ebe3b40c22e51b516472cc9b8c45ca0bdbcc96fcf476bccdf34", func := "gavotte/gavottelaw05.QueueCopies", spec := "queueCopies", unfollowed := true, recurses := true, plainKeys := false, apart := false, narrowed := true }
def QueueCopiesUptoSaid : Prop := queueCopiesUptoRow.holds Try.pinned (OpenSpec.upto queueCopiesSpec)

/-- 'gavottelaw21.LinkHeads', WHERE WHAT IT READS IS OF BULK AT MOST 1048576: true; the input reads as it did. -/
def linkHeadsUptoRow : OpenClaim := { program := "ytflcdbefakjcbaa", sum := "27dfd6cb5c140ebe3b40c22e51b516472cc9b8c45ca0bdbcc96fcf476bccdf34", func := "gavotte/gavottelaw21.LinkHeads", spec := "linkHeads", unfollowed := true, recurses := true, plainKeys := false, apart := false, narrowed := true }
def LinkHeadsUptoSaid : Prop := linkHeadsUptoRow.holds Try.pinned (OpenSpec.upto linkHeadsSpec)

/-- 'gavottelaw21.LinkNil', WHERE WHAT IT READS IS OF BULK AT MOST 1048576: true; the input reads as it did. -/
def linkNilUptoRow : OpenClaim := { program := "ytflcdbefakjcbaa", sum := "27dfd6cb5c140ebe3b40c22e51b516472cc9b8c45ca0bdbcc96fcf476bccdf34", func := "gavotte/gavottelaw21.LinkNil", spec := "linkNil", unfollowed := true, recurses := true, plainKeys := false, apart := false, narrowed := true }
def LinkNilUptoSaid : Prop := linkNilUptoRow.holds Try.pinned (OpenSpec.upto linkNilSpec)

/-- 'gavottelaw21.LinkOrder', WHERE WHAT IT READS IS OF BULK AT MOST 1048576: true; the input reads as it did. -/
def linkOrderUptoRow : OpenClaim := { program := "ytflcdbefakjcbaa", sum := "27dfd6cb5c140ebe3b40c22e51b516472cc9b8c45ca0bdbcc96fcf476bccdf34", func := "gavotte/gavottelaw21.LinkOrder", spec := "linkOrder", unfollowed := true, recurses := true, plainKeys := false, apart := false, narrowed := true }
def LinkOrderUptoSaid : Prop := linkOrderUptoRow.holds Try.pinned (OpenSpec.upto linkOrderSpec)

/-- 'gavottelaw21.LinkPlays', WHERE WHAT IT READS IS OF BULK AT MOST 1048576: true; the input reads as it did. -/
def linkPlaysUptoRow : OpenClaim := { program := "ytflcdbefakjcbaa", sum := "27dfd6cb5c140ebe3b40c22e51b516472cc9b8c45ca0bdbcc96fcf476bccdf34", func := "gavotte/gavottelaw21.LinkPlays", spec := "linkPlays", unfollowed := true, recurses := true, plainKeys := false, apart := false, narrowed := true }
def LinkPlaysUptoSaid : Prop := linkPlaysUptoRow.holds Try.pinned (OpenSpec.upto linkPlaysSpec)

/-- 'gavottelaw21.LinkAll', WHERE WHAT IT READS IS OF BULK AT MOST 1048576: true; the input reads as it did. -/
def linkAllUptoRow : OpenClaim := { program := "ytflcdbefakjcbaa", sum := "27dfd6cb5c140ebe3b40c22e51b516472cc9b8c45ca0bdbcc96fcf476bccdf34", func := "gavotte/gavottelaw21.LinkAll", spec := "linkAll", unfollowed := true, recurses := true, plainKeys := false, apart := false, narrowed := true }
def LinkAllUptoSaid : Prop := linkAllUptoRow.holds Try.pinned (OpenSpec.upto linkAllSpec)

end Rows
end Go.Proofs.Ytflcdbefakjcbaa
