/-
  No cell of these rows narrows 'for every input' (looked for: loops, veiled, ifaces, maps, wideKeys, modest, calm, conditions, laid).
  DERIVED. THE GIVEN ROWS OF THIS SEAT. 5 by the template 'for every input the law returns true; each argument reads behind the call as it read before'; 0 by the template 'total and deterministic' (their statements: YtngnfijpfghodaaTotals.lean).
  GIVEN WITH THE SEED: the statements are not yours to turn. If you find one false, say at which input.
  Laid BY PROGRAM, IN A SANDBOX (cutbox-rows.mjs): the forced cells as the released guide's own fill.sh prints them over the translation c97a1b73cbaf3dc2… (all of the seat's roots in one cut). By AI agents, Wed Nov 11 2026. No macro, syntax, notation, axiom, sorry.
-/
import Derived.Test.YtngnfijpfghodaaChecked
import GoSem.Claim
import GoSem.ClaimJoined
import GoSem.ClaimMapViews
import Derived.JoinedTies
import Derived.KernelRfl
namespace Go.Proofs.Ytngnfijpfghodaa
/- THE CELL 'sum', in the pinned program and in every row, IS THE sha256 OF THE DUMP (.gsa) THAT YtngnfijpfghodaaProg.lean LOADS. Nothing in Lean hashes anything: it is a label: what it is worth is what the hold of that sum in a sandbox is worth. -/
noncomputable def Try.pinned : Pinned := { name := "ytngnfijpfghodaa", sum := "c97a1b73cbaf3dc2e84ed0cc5c86f2caf49734e9930dd0ed2f7db5e1201e576b", checked := Try.checked }
namespace Rows
def none {H : Type} : Left H := { results := [], args := [] }

/-- 'kymographlaw02.HeadWrites': WHATEVER THE INPUT: true; the input reads as it did. -/
def headWritesSpec : ChangeSpec := { name := "headWrites", fn := fun _ => fun
  | [d] => { results := [.lit (.bool true)], args := [d] }
  | _ => none }
def headWritesRow : OpenClaim := { program := "ytngnfijpfghodaa", sum := "c97a1b73cbaf3dc2e84ed0cc5c86f2caf49734e9930dd0ed2f7db5e1201e576b", func := "kymograph/kymographlaw02.HeadWrites", spec := "headWrites", unfollowed := true, recurses := true, apart := false }
def HeadWritesSaid : Prop := headWritesRow.holds Try.pinned (OpenSpec.ofChange headWritesSpec)

/-- ITS FALSE NEIGHBOUR: 'it returns false'. Refute it at one input. -/
def headWritesWrong : ChangeSpec := { name := "headWrites", fn := fun _ => fun
  | [d] => { results := [.lit (.bool false)], args := [d] }
  | _ => none }
def HeadWritesWrongFalsely : Prop := headWritesRow.holds Try.pinned (OpenSpec.ofChange headWritesWrong)

/-- 'kymographlaw02.HeadWhole': WHATEVER THE INPUT: true; the input reads as it did. -/
def headWholeSpec : ChangeSpec := { name := "headWhole", fn := fun _ => fun
  | [d] => { results := [.lit (.bool true)], args := [d] }
  | _ => none }
def headWholeRow : OpenClaim := { program := "ytngnfijpfghodaa", sum := "c97a1b73cbaf3dc2e84ed0cc5c86f2caf49734e9930dd0ed2f7db5e1201e576b", func := "kymograph/kymographlaw02.HeadWhole", spec := "headWhole", unfollowed := true, recurses := true, apart := false }
def HeadWholeSaid : Prop := headWholeRow.holds Try.pinned (OpenSpec.ofChange headWholeSpec)

/-- ITS FALSE NEIGHBOUR: 'it returns false'. Refute it at one input. -/
def headWholeWrong : ChangeSpec := { name := "headWhole", fn := fun _ => fun
  | [d] => { results := [.lit (.bool false)], args := [d] }
  | _ => none }
def HeadWholeWrongFalsely : Prop := headWholeRow.holds Try.pinned (OpenSpec.ofChange headWholeWrong)

/-- 'kymographlaw02.HeadShort': WHATEVER THE INPUT: true; the input reads as it did. -/
def headShortSpec : ChangeSpec := { name := "headShort", fn := fun _ => fun
  | [d1, d2, d3, d4] => { results := [.lit (.bool true)], args := [d1, d2, d3, d4] }
  | _ => none }
def headShortRow : OpenClaim := { program := "ytngnfijpfghodaa", sum := "c97a1b73cbaf3dc2e84ed0cc5c86f2caf49734e9930dd0ed2f7db5e1201e576b", func := "kymograph/kymographlaw02.HeadShort", spec := "headShort", unfollowed := true, recurses := true, apart := false }
def HeadShortSaid : Prop := headShortRow.holds Try.pinned (OpenSpec.ofChange headShortSpec)

/-- ITS FALSE NEIGHBOUR: 'it returns false'. Refute it at one input. -/
def headShortWrong : ChangeSpec := { name := "headShort", fn := fun _ => fun
  | [d1, d2, d3, d4] => { results := [.lit (.bool false)], args := [d1, d2, d3, d4] }
  | _ => none }
def HeadShortWrongFalsely : Prop := headShortRow.holds Try.pinned (OpenSpec.ofChange headShortWrong)

/-- 'kymographlaw02.HeadMarks': WHATEVER THE INPUT: true; the input reads as it did. -/
def headMarksSpec : ChangeSpec := { name := "headMarks", fn := fun _ => fun
  | [d1, d2, d3] => { results := [.lit (.bool true)], args := [d1, d2, d3] }
  | _ => none }
def headMarksRow : OpenClaim := { program := "ytngnfijpfghodaa", sum := "c97a1b73cbaf3dc2e84ed0cc5c86f2caf49734e9930dd0ed2f7db5e1201e576b", func := "kymograph/kymographlaw02.HeadMarks", spec := "headMarks", unfollowed := true, recurses := true, apart := false }
def HeadMarksSaid : Prop := headMarksRow.holds Try.pinned (OpenSpec.ofChange headMarksSpec)

/-- ITS FALSE NEIGHBOUR: 'it returns false'. Refute it at one input. -/
def headMarksWrong : ChangeSpec := { name := "headMarks", fn := fun _ => fun
  | [d1, d2, d3] => { results := [.lit (.bool false)], args := [d1, d2, d3] }
  | _ => none }
def HeadMarksWrongFalsely : Prop := headMarksRow.holds Try.pinned (OpenSpec.ofChange headMarksWrong)

/-- 'kymographlaw02.HeadTypes': WHATEVER THE INPUT: true; the input reads as it did. -/
def headTypesSpec : ChangeSpec := { name := "headTypes", fn := fun _ => fun
  | [d1, d2, d3] => { results := [.lit (.bool true)], args := [d1, d2, d3] }
  | _ => none }
def headTypesRow : OpenClaim := { program := "ytngnfijpfghodaa", sum := "c97a1b73cbaf3dc2e84ed0cc5c86f2caf49734e9930dd0ed2f7db5e1201e576b", func := "kymograph/kymographlaw02.HeadTypes", spec := "headTypes", unfollowed := true, recurses := true, apart := false }
def HeadTypesSaid : Prop := headTypesRow.holds Try.pinned (OpenSpec.ofChange headTypesSpec)

/-- ITS FALSE NEIGHBOUR: 'it returns false'. Refute it at one input. -/
def headTypesWrong : ChangeSpec := { name := "headTypes", fn := fun _ => fun
  | [d1, d2, d3] => { results := [.lit (.bool false)], args := [d1, d2, d3] }
  | _ => none }
def HeadTypesWrongFalsely : Prop := headTypesRow.holds Try.pinned (OpenSpec.ofChange headTypesWrong)

/- THE SECOND FORM. 'bulk': how many values and letters a reading holds, each counted each time it is reached (what is shared counts as often as it is met; a slice's spare places count too). A statement '..UptoSaid' is the law's where the arguments, and the package variables that the reading takes, are together of bulk at most 1048576: NARROWER than '..Said'. Prove '..Said' where nothing that the law and all that it calls make is longer than what came in: it says more and counts as full. Else prove '..UptoSaid'. A law counts once. -/
mutual
def uptoBulk {H : Type} : DataW H → Nat
  | .lit (.string bytes) => bytes.length + 1
  | .lit _ => 1
  | .nil => 1
  | .ptr d => uptoBulk d + 1
  | .slice elems spare => uptoBulkAll elems + uptoBulkAll spare + 1
  | .agg parts => uptoBulkAll parts + 1
  | .iface _ d => uptoBulk d + 1
  | .map entries => uptoBulkEntries entries + 1
  | .held _ => 1
def uptoBulkAll {H : Type} : List (DataW H) → Nat
  | [] => 0
  | d :: r => uptoBulk d + uptoBulkAll r
def uptoBulkEntries {H : Type} : List (Lit × DataW H) → Nat
  | [] => 0
  | x :: r => uptoBulkEntry x + uptoBulkEntries r
def uptoBulkEntry {H : Type} : Lit × DataW H → Nat
  | (.string bytes, d) => bytes.length + uptoBulk d + 1
  | (_, d) => uptoBulk d + 1
 end
def uptoSmall : (H : Type) → List (DataW H) → Bool := fun _ ds => decide (uptoBulkAll ds ≤ 1048576)
def OpenSpec.upto (s : _root_.Go.ChangeSpec) : _root_.Go.OpenSpec := { _root_.Go.OpenSpec.ofChange s with cond := some uptoSmall }

/-- 'kymographlaw02.HeadWrites', WHERE WHAT IT READS IS OF BULK AT MOST 1048576: true; the input reads as it did. -/
def headWritesUptoRow : OpenClaim := { program := "ytngnfijpfghodaa", sum := "c97a1b73cbaf3dc2e84ed0cc5c86f2caf49734e9930dd0ed2f7db5e1201e576b", func := "kymograph/kymographlaw02.HeadWrites", spec := "headWrites", unfollowed := true, recurses := true, apart := false, narrowed := true }
def HeadWritesUptoSaid : Prop := headWritesUptoRow.holds Try.pinned (OpenSpec.upto headWritesSpec)

/-- 'kymographlaw02.HeadWhole', WHERE WHAT IT READS IS OF BULK AT MOST 1048576: true; the input reads as it did. -/
def headWholeUptoRow : OpenClaim := { program := "ytngnfijpfghodaa", sum := "c97a1b73cbaf3dc2e84ed0cc5c86f2caf49734e9930dd0ed2f7db5e1201e576b", func := "kymograph/kymographlaw02.HeadWhole", spec := "headWhole", unfollowed := true, recurses := true, apart := false, narrowed := true }
def HeadWholeUptoSaid : Prop := headWholeUptoRow.holds Try.pinned (OpenSpec.upto headWholeSpec)

/-- 'kymographlaw02.HeadShort', WHERE WHAT IT READS IS OF BULK AT MOST 1048576: true; the input reads as it did. -/
def headShortUptoRow : OpenClaim := { program := "ytngnfijpfghodaa", sum := "c97a1b73cbaf3dc2e84ed0cc5c86f2caf49734e9930dd0ed2f7db5e1201e576b", func := "kymograph/kymographlaw02.HeadShort", spec := "headShort", unfollowed := true, recurses := true, apart := false, narrowed := true }
def HeadShortUptoSaid : Prop := headShortUptoRow.holds Try.pinned (OpenSpec.upto headShortSpec)

/-- 'kymographlaw02.HeadMarks', WHERE WHAT IT READS IS OF BULK AT MOST 1048576: true; the input reads as it did. -/
def headMarksUptoRow : OpenClaim := { program := "ytngnfijpfghodaa", sum := "c97a1b73cbaf3dc2e84ed0cc5c86f2caf49734e9930dd0ed2f7db5e1201e576b", func := "kymograph/kymographlaw02.HeadMarks", spec := "headMarks", unfollowed := true, recurses := true, apart := false, narrowed := true }
def HeadMarksUptoSaid : Prop := headMarksUptoRow.holds Try.pinned (OpenSpec.upto headMarksSpec)

/-- 'kymographlaw02.HeadTypes', WHERE WHAT IT READS IS OF BULK AT MOST 1048576: true; the input reads as it did. -/
def headTypesUptoRow : OpenClaim := { program := "ytngnfijpfghodaa", sum := "c97a1b73cbaf3dc2e84ed0cc5c86f2caf49734e9930dd0ed2f7db5e1201e576b", func := "kymograph/kymographlaw02.HeadTypes", spec := "headTypes", unfollowed := true, recurses := true, apart := false, narrowed := true }
def HeadTypesUptoSaid : Prop := headTypesUptoRow.holds Try.pinned (OpenSpec.upto headTypesSpec)

end Rows
end Go.Proofs.Ytngnfijpfghodaa
