/-
  No cell of these rows narrows 'for every input' (looked for: loops, veiled, ifaces, maps, wideKeys, modest, calm, conditions, laid).
  DERIVED. THE GIVEN ROWS OF THIS SEAT. 6 by the template 'for every input the law returns true; each argument reads behind the call as it read before'; 0 by the template 'total and deterministic' (their statements: YtmnmpmiocgfalaaTotals.lean).
  GIVEN WITH THE SEED: the statements are not yours to turn. If you find one false, say at which input.
  Laid BY PROGRAM, IN A SANDBOX (cutbox-rows.mjs): the forced cells as the released guide's own fill.sh prints them over the translation f12cf9e540e4629d… (all of the seat's roots in one cut). By AI agents, Wed Nov 11 2026. No macro, syntax, notation, axiom, sorry.
-/
import Derived.Test.YtmnmpmiocgfalaaChecked
import GoSem.Claim
import GoSem.ClaimJoined
import GoSem.ClaimMapViews
import Derived.JoinedTies
import Derived.KernelRfl
namespace Go.Proofs.Ytmnmpmiocgfalaa
/- THE CELL 'sum', in the pinned program and in every row, IS THE sha256 OF THE DUMP (.gsa) THAT YtmnmpmiocgfalaaProg.lean LOADS. Nothing in Lean hashes anything: it is a label: what it is worth is what the hold of that sum in a sandbox is worth. -/
noncomputable def Try.pinned : Pinned := { name := "ytmnmpmiocgfalaa", sum := "f12cf9e540e4629dc60bfbfe0d6f4f9bdcc62d4ca68a061816d5abe32e4fa9f2", checked := Try.checked }
namespace Rows
def none {H : Type} : Left H := { results := [], args := [] }

/-- 'kymographlaw15.SpaceAcks': WHATEVER THE INPUT: true; the input reads as it did. -/
def spaceAcksSpec : ChangeSpec := { name := "spaceAcks", fn := fun _ => fun
  | [d] => { results := [.lit (.bool true)], args := [d] }
  | _ => none }
def spaceAcksRow : OpenClaim := { program := "ytmnmpmiocgfalaa", sum := "f12cf9e540e4629dc60bfbfe0d6f4f9bdcc62d4ca68a061816d5abe32e4fa9f2", func := "kymograph/kymographlaw15.SpaceAcks", spec := "spaceAcks", inPlace := ["slices.overlaps[kymograph/api.Range]"], unfollowed := true, recurses := true, apart := false }
def SpaceAcksSaid : Prop := spaceAcksRow.holds Try.pinned (OpenSpec.ofChange spaceAcksSpec)

/-- ITS FALSE NEIGHBOUR: 'it returns false'. Refute it at one input. -/
def spaceAcksWrong : ChangeSpec := { name := "spaceAcks", fn := fun _ => fun
  | [d] => { results := [.lit (.bool false)], args := [d] }
  | _ => none }
def SpaceAcksWrongFalsely : Prop := spaceAcksRow.holds Try.pinned (OpenSpec.ofChange spaceAcksWrong)

/-- 'kymographlaw15.SpaceTakes': WHATEVER THE INPUT: true; the input reads as it did. -/
def spaceTakesSpec : ChangeSpec := { name := "spaceTakes", fn := fun _ => fun
  | [d] => { results := [.lit (.bool true)], args := [d] }
  | _ => none }
def spaceTakesRow : OpenClaim := { program := "ytmnmpmiocgfalaa", sum := "f12cf9e540e4629dc60bfbfe0d6f4f9bdcc62d4ca68a061816d5abe32e4fa9f2", func := "kymograph/kymographlaw15.SpaceTakes", spec := "spaceTakes", inPlace := ["slices.overlaps[kymograph/api.Range]"], unfollowed := true, recurses := true, apart := false }
def SpaceTakesSaid : Prop := spaceTakesRow.holds Try.pinned (OpenSpec.ofChange spaceTakesSpec)

/-- ITS FALSE NEIGHBOUR: 'it returns false'. Refute it at one input. -/
def spaceTakesWrong : ChangeSpec := { name := "spaceTakes", fn := fun _ => fun
  | [d] => { results := [.lit (.bool false)], args := [d] }
  | _ => none }
def SpaceTakesWrongFalsely : Prop := spaceTakesRow.holds Try.pinned (OpenSpec.ofChange spaceTakesWrong)

/-- 'kymographlaw15.SpaceMinds': WHATEVER THE INPUT: true; the input reads as it did. -/
def spaceMindsSpec : ChangeSpec := { name := "spaceMinds", fn := fun _ => fun
  | [d] => { results := [.lit (.bool true)], args := [d] }
  | _ => none }
def spaceMindsRow : OpenClaim := { program := "ytmnmpmiocgfalaa", sum := "f12cf9e540e4629dc60bfbfe0d6f4f9bdcc62d4ca68a061816d5abe32e4fa9f2", func := "kymograph/kymographlaw15.SpaceMinds", spec := "spaceMinds", inPlace := ["slices.overlaps[kymograph/api.Range]"], unfollowed := true, recurses := true, apart := false }
def SpaceMindsSaid : Prop := spaceMindsRow.holds Try.pinned (OpenSpec.ofChange spaceMindsSpec)

/-- ITS FALSE NEIGHBOUR: 'it returns false'. Refute it at one input. -/
def spaceMindsWrong : ChangeSpec := { name := "spaceMinds", fn := fun _ => fun
  | [d] => { results := [.lit (.bool false)], args := [d] }
  | _ => none }
def SpaceMindsWrongFalsely : Prop := spaceMindsRow.holds Try.pinned (OpenSpec.ofChange spaceMindsWrong)

/-- 'kymographlaw15.SpaceRises': WHATEVER THE INPUT: true; the input reads as it did. -/
def spaceRisesSpec : ChangeSpec := { name := "spaceRises", fn := fun _ => fun
  | [d] => { results := [.lit (.bool true)], args := [d] }
  | _ => none }
def spaceRisesRow : OpenClaim := { program := "ytmnmpmiocgfalaa", sum := "f12cf9e540e4629dc60bfbfe0d6f4f9bdcc62d4ca68a061816d5abe32e4fa9f2", func := "kymograph/kymographlaw15.SpaceRises", spec := "spaceRises", inPlace := ["slices.overlaps[kymograph/api.Range]"], unfollowed := true, recurses := true, apart := false }
def SpaceRisesSaid : Prop := spaceRisesRow.holds Try.pinned (OpenSpec.ofChange spaceRisesSpec)

/-- ITS FALSE NEIGHBOUR: 'it returns false'. Refute it at one input. -/
def spaceRisesWrong : ChangeSpec := { name := "spaceRises", fn := fun _ => fun
  | [d] => { results := [.lit (.bool false)], args := [d] }
  | _ => none }
def SpaceRisesWrongFalsely : Prop := spaceRisesRow.holds Try.pinned (OpenSpec.ofChange spaceRisesWrong)

/-- 'kymographlaw15.SpaceMust': WHATEVER THE INPUT: true; the input reads as it did. -/
def spaceMustSpec : ChangeSpec := { name := "spaceMust", fn := fun _ => fun
  | [d] => { results := [.lit (.bool true)], args := [d] }
  | _ => none }
def spaceMustRow : OpenClaim := { program := "ytmnmpmiocgfalaa", sum := "f12cf9e540e4629dc60bfbfe0d6f4f9bdcc62d4ca68a061816d5abe32e4fa9f2", func := "kymograph/kymographlaw15.SpaceMust", spec := "spaceMust", inPlace := ["slices.overlaps[kymograph/api.Range]"], unfollowed := true, recurses := true, apart := false }
def SpaceMustSaid : Prop := spaceMustRow.holds Try.pinned (OpenSpec.ofChange spaceMustSpec)

/-- ITS FALSE NEIGHBOUR: 'it returns false'. Refute it at one input. -/
def spaceMustWrong : ChangeSpec := { name := "spaceMust", fn := fun _ => fun
  | [d] => { results := [.lit (.bool false)], args := [d] }
  | _ => none }
def SpaceMustWrongFalsely : Prop := spaceMustRow.holds Try.pinned (OpenSpec.ofChange spaceMustWrong)

/-- 'kymographlaw15.SpaceDoes': WHATEVER THE INPUT: true; the input reads as it did. -/
def spaceDoesSpec : ChangeSpec := { name := "spaceDoes", fn := fun _ => fun
  | [d] => { results := [.lit (.bool true)], args := [d] }
  | _ => none }
def spaceDoesRow : OpenClaim := { program := "ytmnmpmiocgfalaa", sum := "f12cf9e540e4629dc60bfbfe0d6f4f9bdcc62d4ca68a061816d5abe32e4fa9f2", func := "kymograph/kymographlaw15.SpaceDoes", spec := "spaceDoes", inPlace := ["slices.overlaps[kymograph/api.Range]"], unfollowed := true, recurses := true, apart := false }
def SpaceDoesSaid : Prop := spaceDoesRow.holds Try.pinned (OpenSpec.ofChange spaceDoesSpec)

/-- ITS FALSE NEIGHBOUR: 'it returns false'. Refute it at one input. -/
def spaceDoesWrong : ChangeSpec := { name := "spaceDoes", fn := fun _ => fun
  | [d] => { results := [.lit (.bool false)], args := [d] }
  | _ => none }
def SpaceDoesWrongFalsely : Prop := spaceDoesRow.holds Try.pinned (OpenSpec.ofChange spaceDoesWrong)

/- THE SECOND FORM. 'bulk': how many values and letters a reading holds, each counted each time it is reached (what is shared counts as often as it is met; a slice's spare places count too). A statement '..UptoSaid' is the law's where the arguments, and the package variables that the reading takes, are together of bulk at most 1048576: NARROWER than '..Said'. Prove '..Said' where nothing that the law and all that it calls make is longer than what came in: it says more and counts as full. Else prove '..UptoSaid'. A law counts once. -/
mutual
def uptoBulk {H : Type} : DataW H → Nat
  | .lit (.string bytes) => bytes.length + 1
  | .lit _ => 1
  | .nil => 1
  | .ptr d => uptoBulk d + 1
  | .slice elems spare => uptoBulkAll elems + uptoBulkAll spare + 1
  | .agg parts => uptoBulkAll parts + 1
  | .iface _ d => uptoBulk d + 1
  | .map entries => uptoBulkEntries entries + 1
  | .held _ => 1
def uptoBulkAll {H : Type} : List (DataW H) → Nat
  | [] => 0
  | d :: r => uptoBulk d + uptoBulkAll r
def uptoBulkEntries {H : Type} : List (Lit × DataW H) → Nat
  | [] => 0
  | x :: r => uptoBulkEntry x + uptoBulkEntries r
def uptoBulkEntry {H : Type} : Lit × DataW H → Nat
  | (.string bytes, d) => bytes.length + uptoBulk d + 1
  | (_, d) => uptoBulk d + 1
 end
def uptoSmall : (H : Type) → List (DataW H) → Bool := fun _ ds => decide (uptoBulkAll ds ≤ 1048576)
def OpenSpec.upto (s : _root_.Go.ChangeSpec) : _root_.Go.OpenSpec := { _root_.Go.OpenSpec.ofChange s with cond := some uptoSmall }

/-- 'kymographlaw15.SpaceAcks', WHERE WHAT IT READS IS OF BULK AT MOST 1048576: true; the input reads as it did. -/
def spaceAcksUptoRow : OpenClaim := { program := "ytmnmpmiocgfalaa", sum := "f12cf9e540e4629dc60bfbfe0d6f4f9bdcc62d4ca68a061816d5abe32e4fa9f2", func := "kymograph/kymographlaw15.SpaceAcks", spec := "spaceAcks", inPlace := ["slices.overlaps[kymograph/api.Range]"], unfollowed := true, recurses := true, apart := false, narrowed := true }
def SpaceAcksUptoSaid : Prop := spaceAcksUptoRow.holds Try.pinned (OpenSpec.upto spaceAcksSpec)

/-- 'kymographlaw15.SpaceTakes', WHERE WHAT IT READS IS OF BULK AT MOST 1048576: true; the input reads as it did. -/
def spaceTakesUptoRow : OpenClaim := { program := "ytmnmpmiocgfalaa", sum := "f12cf9e540e4629dc60bfbfe0d6f4f9bdcc62d4ca68a061816d5abe32e4fa9f2", func := "kymograph/kymographlaw15.SpaceTakes", spec := "spaceTakes", inPlace := ["slices.overlaps[kymograph/api.Range]"], unfollowed := true, recurses := true, apart := false, narrowed := true }
def SpaceTakesUptoSaid : Prop := spaceTakesUptoRow.holds Try.pinned (OpenSpec.upto spaceTakesSpec)

/-- 'kymographlaw15.SpaceMinds', WHERE WHAT IT READS IS OF BULK AT MOST 1048576: true; the input reads as it did. -/
def spaceMindsUptoRow : OpenClaim := { program := "ytmnmpmiocgfalaa", sum := "f12cf9e540e4629dc60bfbfe0d6f4f9bdcc62d4ca68a061816d5abe32e4fa9f2", func := "kymograph/kymographlaw15.SpaceMinds", spec := "spaceMinds", inPlace := ["slices.overlaps[kymograph/api.Range]"], unfollowed := true, recurses := true, apart := false, narrowed := true }
def SpaceMindsUptoSaid : Prop := spaceMindsUptoRow.holds Try.pinned (OpenSpec.upto spaceMindsSpec)

/-- 'kymographlaw15.SpaceRises', WHERE WHAT IT READS IS OF BULK AT MOST 1048576: true; the input reads as it did. -/
def spaceRisesUptoRow : OpenClaim := { program := "ytmnmpmiocgfalaa", sum := "f12cf9e540e4629dc60bfbfe0d6f4f9bdcc62d4ca68a061816d5abe32e4fa9f2", func := "kymograph/kymographlaw15.SpaceRises", spec := "spaceRises", inPlace := ["slices.overlaps[kymograph/api.Range]"], unfollowed := true, recurses := true, apart := false, narrowed := true }
def SpaceRisesUptoSaid : Prop := spaceRisesUptoRow.holds Try.pinned (OpenSpec.upto spaceRisesSpec)

/-- 'kymographlaw15.SpaceMust', WHERE WHAT IT READS IS OF BULK AT MOST 1048576: true; the input reads as it did. -/
def spaceMustUptoRow : OpenClaim := { program := "ytmnmpmiocgfalaa", sum := "f12cf9e540e4629dc60bfbfe0d6f4f9bdcc62d4ca68a061816d5abe32e4fa9f2", func := "kymograph/kymographlaw15.SpaceMust", spec := "spaceMust", inPlace := ["slices.overlaps[kymograph/api.Range]"], unfollowed := true, recurses := true, apart := false, narrowed := true }
def SpaceMustUptoSaid : Prop := spaceMustUptoRow.holds Try.pinned (OpenSpec.upto spaceMustSpec)

/-- 'kymographlaw15.SpaceDoes', WHERE WHAT IT READS IS OF BULK AT MOST 1048576: true; the input reads as it did. -/
def spaceDoesUptoRow : OpenClaim := { program := "ytmnmpmiocgfalaa", sum := "f12cf9e540e4629dc60bfbfe0d6f4f9bdcc62d4ca68a061816d5abe32e4fa9f2", func := "kymograph/kymographlaw15.SpaceDoes", spec := "spaceDoes", inPlace := ["slices.overlaps[kymograph/api.Range]"], unfollowed := true, recurses := true, apart := false, narrowed := true }
def SpaceDoesUptoSaid : Prop := spaceDoesUptoRow.holds Try.pinned (OpenSpec.upto spaceDoesSpec)

end Rows
end Go.Proofs.Ytmnmpmiocgfalaa
