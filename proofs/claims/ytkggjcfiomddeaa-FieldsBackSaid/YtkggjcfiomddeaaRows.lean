/-
  No cell of these rows narrows 'for every input' (looked for: loops, veiled, ifaces, maps, wideKeys, modest, calm, conditions, laid).
  DERIVED. THE GIVEN ROWS OF THIS SEAT. 6 by the template 'for every input the law returns true; each argument reads behind the call as it read before'; 0 by the template 'total and deterministic' (their statements: YtkggjcfiomddeaaTotals.lean).
  GIVEN WITH THE SEED: the statements are not yours to turn. If you find one false, say at which input.
  Laid BY PROGRAM, IN A SANDBOX (cutbox-rows.mjs): the forced cells as the released guide's own fill.sh prints them over the translation 9681e3fbde35a33a… (all of the seat's roots in one cut). By AI agents, Wed Nov 11 2026. No macro, syntax, notation, axiom, sorry.
-/
import Derived.Test.YtkggjcfiomddeaaChecked
import GoSem.Claim
import GoSem.ClaimJoined
import GoSem.ClaimMapViews
import Derived.JoinedTies
import Derived.KernelRfl
namespace Go.Proofs.Ytkggjcfiomddeaa
/- THE CELL 'sum', in the pinned program and in every row, IS THE sha256 OF THE DUMP (.gsa) THAT YtkggjcfiomddeaaProg.lean LOADS. Nothing in Lean hashes anything: it is a label: what it is worth is what the hold of that sum in a sandbox is worth. -/
noncomputable def Try.pinned : Pinned := { name := "ytkggjcfiomddeaa", sum := "9681e3fbde35a33aa6c60fcf11f8d9a8616b8a9676d4607a127b69e24f294582", checked := Try.checked }
namespace Rows
def none {H : Type} : Left H := { results := [], args := [] }

/-- 'kymographlaw18.FieldsNumbers': WHATEVER THE INPUT: true; the input reads as it did. -/
def fieldsNumbersSpec : ChangeSpec := { name := "fieldsNumbers", fn := fun _ => fun
  | [d1, d2, d3] => { results := [.lit (.bool true)], args := [d1, d2, d3] }
  | _ => none }
def fieldsNumbersRow : OpenClaim := { program := "ytkggjcfiomddeaa", sum := "9681e3fbde35a33aa6c60fcf11f8d9a8616b8a9676d4607a127b69e24f294582", func := "kymograph/kymographlaw18.FieldsNumbers", spec := "fieldsNumbers", inPlace := ["internal/bytealg.IndexByteString"], unfollowed := true, recurses := true, apart := false }
def FieldsNumbersSaid : Prop := fieldsNumbersRow.holds Try.pinned (OpenSpec.ofChange fieldsNumbersSpec)

/-- ITS FALSE NEIGHBOUR: 'it returns false'. Refute it at one input. -/
def fieldsNumbersWrong : ChangeSpec := { name := "fieldsNumbers", fn := fun _ => fun
  | [d1, d2, d3] => { results := [.lit (.bool false)], args := [d1, d2, d3] }
  | _ => none }
def FieldsNumbersWrongFalsely : Prop := fieldsNumbersRow.holds Try.pinned (OpenSpec.ofChange fieldsNumbersWrong)

/-- 'kymographlaw18.FieldsWrite': WHATEVER THE INPUT: true; the input reads as it did. -/
def fieldsWriteSpec : ChangeSpec := { name := "fieldsWrite", fn := fun _ => fun
  | [d1, d2] => { results := [.lit (.bool true)], args := [d1, d2] }
  | _ => none }
def fieldsWriteRow : OpenClaim := { program := "ytkggjcfiomddeaa", sum := "9681e3fbde35a33aa6c60fcf11f8d9a8616b8a9676d4607a127b69e24f294582", func := "kymograph/kymographlaw18.FieldsWrite", spec := "fieldsWrite", inPlace := ["internal/bytealg.IndexByteString"], unfollowed := true, recurses := true, apart := false }
def FieldsWriteSaid : Prop := fieldsWriteRow.holds Try.pinned (OpenSpec.ofChange fieldsWriteSpec)

/-- ITS FALSE NEIGHBOUR: 'it returns false'. Refute it at one input. -/
def fieldsWriteWrong : ChangeSpec := { name := "fieldsWrite", fn := fun _ => fun
  | [d1, d2] => { results := [.lit (.bool false)], args := [d1, d2] }
  | _ => none }
def FieldsWriteWrongFalsely : Prop := fieldsWriteRow.holds Try.pinned (OpenSpec.ofChange fieldsWriteWrong)

/-- 'kymographlaw18.FieldsBack': WHATEVER THE INPUT: true; the input reads as it did. -/
def fieldsBackSpec : ChangeSpec := { name := "fieldsBack", fn := fun _ => fun
  | [d1, d2] => { results := [.lit (.bool true)], args := [d1, d2] }
  | _ => none }
def fieldsBackRow : OpenClaim := { program := "ytkggjcfiomddeaa", sum := "9681e3fbde35a33aa6c60fcf11f8d9a8616b8a9676d4607a127b69e24f294582", func := "kymograph/kymographlaw18.FieldsBack", spec := "fieldsBack", inPlace := ["internal/bytealg.IndexByteString"], unfollowed := true, recurses := true, apart := false }
def FieldsBackSaid : Prop := fieldsBackRow.holds Try.pinned (OpenSpec.ofChange fieldsBackSpec)

/-- ITS FALSE NEIGHBOUR: 'it returns false'. Refute it at one input. -/
def fieldsBackWrong : ChangeSpec := { name := "fieldsBack", fn := fun _ => fun
  | [d1, d2] => { results := [.lit (.bool false)], args := [d1, d2] }
  | _ => none }
def FieldsBackWrongFalsely : Prop := fieldsBackRow.holds Try.pinned (OpenSpec.ofChange fieldsBackWrong)

/-- 'kymographlaw18.FieldsRoom': WHATEVER THE INPUT: true; the input reads as it did. -/
def fieldsRoomSpec : ChangeSpec := { name := "fieldsRoom", fn := fun _ => fun
  | [d1, d2] => { results := [.lit (.bool true)], args := [d1, d2] }
  | _ => none }
def fieldsRoomRow : OpenClaim := { program := "ytkggjcfiomddeaa", sum := "9681e3fbde35a33aa6c60fcf11f8d9a8616b8a9676d4607a127b69e24f294582", func := "kymograph/kymographlaw18.FieldsRoom", spec := "fieldsRoom", inPlace := ["internal/bytealg.IndexByteString"], unfollowed := true, recurses := true, apart := false }
def FieldsRoomSaid : Prop := fieldsRoomRow.holds Try.pinned (OpenSpec.ofChange fieldsRoomSpec)

/-- ITS FALSE NEIGHBOUR: 'it returns false'. Refute it at one input. -/
def fieldsRoomWrong : ChangeSpec := { name := "fieldsRoom", fn := fun _ => fun
  | [d1, d2] => { results := [.lit (.bool false)], args := [d1, d2] }
  | _ => none }
def FieldsRoomWrongFalsely : Prop := fieldsRoomRow.holds Try.pinned (OpenSpec.ofChange fieldsRoomWrong)

/-- 'kymographlaw18.FieldsFixed': WHATEVER THE INPUT: true; the input reads as it did. -/
def fieldsFixedSpec : ChangeSpec := { name := "fieldsFixed", fn := fun _ => fun
  | [d1, d2] => { results := [.lit (.bool true)], args := [d1, d2] }
  | _ => none }
def fieldsFixedRow : OpenClaim := { program := "ytkggjcfiomddeaa", sum := "9681e3fbde35a33aa6c60fcf11f8d9a8616b8a9676d4607a127b69e24f294582", func := "kymograph/kymographlaw18.FieldsFixed", spec := "fieldsFixed", inPlace := ["internal/bytealg.IndexByteString"], unfollowed := true, recurses := true, apart := false }
def FieldsFixedSaid : Prop := fieldsFixedRow.holds Try.pinned (OpenSpec.ofChange fieldsFixedSpec)

/-- ITS FALSE NEIGHBOUR: 'it returns false'. Refute it at one input. -/
def fieldsFixedWrong : ChangeSpec := { name := "fieldsFixed", fn := fun _ => fun
  | [d1, d2] => { results := [.lit (.bool false)], args := [d1, d2] }
  | _ => none }
def FieldsFixedWrongFalsely : Prop := fieldsFixedRow.holds Try.pinned (OpenSpec.ofChange fieldsFixedWrong)

/-- 'kymographlaw18.FieldsAgain': WHATEVER THE INPUT: true; the input reads as it did. -/
def fieldsAgainSpec : ChangeSpec := { name := "fieldsAgain", fn := fun _ => fun
  | [d1, d2] => { results := [.lit (.bool true)], args := [d1, d2] }
  | _ => none }
def fieldsAgainRow : OpenClaim := { program := "ytkggjcfiomddeaa", sum := "9681e3fbde35a33aa6c60fcf11f8d9a8616b8a9676d4607a127b69e24f294582", func := "kymograph/kymographlaw18.FieldsAgain", spec := "fieldsAgain", inPlace := ["internal/bytealg.IndexByteString"], unfollowed := true, recurses := true, apart := false }
def FieldsAgainSaid : Prop := fieldsAgainRow.holds Try.pinned (OpenSpec.ofChange fieldsAgainSpec)

/-- ITS FALSE NEIGHBOUR: 'it returns false'. Refute it at one input. -/
def fieldsAgainWrong : ChangeSpec := { name := "fieldsAgain", fn := fun _ => fun
  | [d1, d2] => { results := [.lit (.bool false)], args := [d1, d2] }
  | _ => none }
def FieldsAgainWrongFalsely : Prop := fieldsAgainRow.holds Try.pinned (OpenSpec.ofChange fieldsAgainWrong)

/- THE SECOND FORM. 'bulk': how many values and letters a reading holds, each counted each time it is reached (what is shared counts as often as it is met; a slice's spare places count too). A statement '..UptoSaid' is the law's where the arguments, and the package variables that the reading takes, are together of bulk at most 1048576: NARROWER than '..Said'. Prove '..Said' where nothing that the law and all that it calls make is longer than what came in: it says more and counts as full. Else prove '..UptoSaid'. A law counts once. -/
mutual
def uptoBulk {H : Type} : DataW H → Nat
  | .lit (.string bytes) => bytes.length + 1
  | .lit _ => 1
  | .nil => 1
  | .ptr d => uptoBulk d + 1
  | .slice elems spare => uptoBulkAll elems + uptoBulkAll spare + 1
  | .agg parts => uptoBulkAll parts + 1
  | .iface _ d => uptoBulk d + 1
  | .map entries => uptoBulkEntries entries + 1
  | .held _ => 1
def uptoBulkAll {H : Type} : List (DataW H) → Nat
  | [] => 0
  | d :: r => uptoBulk d + uptoBulkAll r
def uptoBulkEntries {H : Type} : List (Lit × DataW H) → Nat
  | [] => 0
  | x :: r => uptoBulkEntry x + uptoBulkEntries r
def uptoBulkEntry {H : Type} : Lit × DataW H → Nat
  | (.string bytes, d) => bytes.length + uptoBulk d + 1
  | (_, d) => uptoBulk d + 1
 end
def uptoSmall : (H : Type) → List (DataW H) → Bool := fun _ ds => decide (uptoBulkAll ds ≤ 1048576)
def OpenSpec.upto (s : _root_.Go.ChangeSpec) : _root_.Go.OpenSpec := { _root_.Go.OpenSpec.ofChange s with cond := some uptoSmall }

/-- 'kymographlaw18.FieldsNumbers', WHERE WHAT IT READS IS OF BULK AT MOST 1048576: true; the input reads as it did. -/
def fieldsNumbersUptoRow : OpenClaim := { program := "ytkggjcfiomddeaa", sum := "9681e3fbde35a33aa6c60fcf11f8d9a8616b8a9676d4607a127b69e24f294582", func := "kymograph/kymographlaw18.FieldsNumbers", spec := "fieldsNumbers", inPlace := ["internal/bytealg.IndexByteString"], unfollowed := true, recurses := true, apart := false, narrowed := true }
def FieldsNumbersUptoSaid : Prop := fieldsNumbersUptoRow.holds Try.pinned (OpenSpec.upto fieldsNumbersSpec)

/-- 'kymographlaw18.FieldsWrite', WHERE WHAT IT READS IS OF BULK AT MOST 1048576: true; the input reads as it did. -/
def fieldsWriteUptoRow : OpenClaim := { program := "ytkggjcfiomddeaa", sum := "9681e3fbde35a33aa6c60fcf11f8d9a8616b8a9676d4607a127b69e24f294582", func := "kymograph/kymographlaw18.FieldsWrite", spec := "fieldsWrite", inPlace := ["internal/bytealg.IndexByteString"], unfollowed := true, recurses := true, apart := false, narrowed := true }
def FieldsWriteUptoSaid : Prop := fieldsWriteUptoRow.holds Try.pinned (OpenSpec.upto fieldsWriteSpec)

/-- 'kymographlaw18.FieldsBack', WHERE WHAT IT READS IS OF BULK AT MOST 1048576: true; the input reads as it did. -/
def fieldsBackUptoRow : OpenClaim := { program := "ytkggjcfiomddeaa", sum := "9681e3fbde35a33aa6c60fcf11f8d9a8616b8a9676d4607a127b69e24f294582", func := "kymograph/kymographlaw18.FieldsBack", spec := "fieldsBack", inPlace := ["internal/bytealg.IndexByteString"], unfollowed := true, recurses := true, apart := false, narrowed := true }
def FieldsBackUptoSaid : Prop := fieldsBackUptoRow.holds Try.pinned (OpenSpec.upto fieldsBackSpec)

/-- 'kymographlaw18.FieldsRoom', WHERE WHAT IT READS IS OF BULK AT MOST 1048576: true; the input reads as it did. -/
def fieldsRoomUptoRow : OpenClaim := { program := "ytkggjcfiomddeaa", sum := "9681e3fbde35a33aa6c60fcf11f8d9a8616b8a9676d4607a127b69e24f294582", func := "kymograph/kymographlaw18.FieldsRoom", spec := "fieldsRoom", inPlace := ["internal/bytealg.IndexByteString"], unfollowed := true, recurses := true, apart := false, narrowed := true }
def FieldsRoomUptoSaid : Prop := fieldsRoomUptoRow.holds Try.pinned (OpenSpec.upto fieldsRoomSpec)

/-- 'kymographlaw18.FieldsFixed', WHERE WHAT IT READS IS OF BULK AT MOST 1048576: true; the input reads as it did. -/
def fieldsFixedUptoRow : OpenClaim := { program := "ytkggjcfiomddeaa", sum := "9681e3fbde35a33aa6c60fcf11f8d9a8616b8a9676d4607a127b69e24f294582", func := "kymograph/kymographlaw18.FieldsFixed", spec := "fieldsFixed", inPlace := ["internal/bytealg.IndexByteString"], unfollowed := true, recurses := true, apart := false, narrowed := true }
def FieldsFixedUptoSaid : Prop := fieldsFixedUptoRow.holds Try.pinned (OpenSpec.upto fieldsFixedSpec)

/-- 'kymographlaw18.FieldsAgain', WHERE WHAT IT READS IS OF BULK AT MOST 1048576: true; the input reads as it did. -/
def fieldsAgainUptoRow : OpenClaim := { program := "ytkggjcfiomddeaa", sum := "9681e3fbde35a33aa6c60fcf11f8d9a8616b8a9676d4607a127b69e24f294582", func := "kymograph/kymographlaw18.FieldsAgain", spec := "fieldsAgain", inPlace := ["internal/bytealg.IndexByteString"], unfollowed := true, recurses := true, apart := false, narrowed := true }
def FieldsAgainUptoSaid : Prop := fieldsAgainUptoRow.holds Try.pinned (OpenSpec.upto fieldsAgainSpec)

end Rows
end Go.Proofs.Ytkggjcfiomddeaa
