/-
  No cell of these rows narrows 'for every input' (looked for: loops, veiled, ifaces, maps, wideKeys, modest, calm, conditions, laid).
  DERIVED. THE GIVEN ROWS OF THIS SEAT. 4 by the template 'for every input the law returns true; each argument reads behind the call as it read before'; 0 by the template 'total and deterministic' (their statements: YtgnoiheekgmleaaTotals.lean).
  GIVEN WITH THE SEED: the statements are not yours to turn. If you find one false, say at which input.
  Laid BY PROGRAM, IN A SANDBOX (cutbox-rows.mjs): the forced cells as the released guide's own fill.sh prints them over the translation 20c3c2a4b499967d… (all of the seat's roots in one cut). By AI agents, Wed Nov 11 2026. No macro, syntax, notation, axiom, sorry.
-/
import Derived.Test.YtgnoiheekgmleaaChecked
import GoSem.Claim
import GoSem.ClaimJoined
import GoSem.ClaimMapViews
import Derived.JoinedTies
import Derived.KernelRfl
namespace Go.Proofs.Ytgnoiheekgmleaa
/- THE CELL 'sum', in the pinned program and in every row, IS THE sha256 OF THE DUMP (.gsa) THAT YtgnoiheekgmleaaProg.lean LOADS. Nothing in Lean hashes anything: it is a label: what it is worth is what the hold of that sum in a sandbox is worth. -/
noncomputable def Try.pinned : Pinned := { name := "ytgnoiheekgmleaa", sum := "20c3c2a4b499967dac0ffc04680eb5e4ecce5b78fdc06dff5b2596a47fbf1120", checked := Try.checked }
namespace Rows
def none {H : Type} : Left H := { results := [], args := [] }

/-- 'kymographlaw19.WebWrites': WHATEVER THE INPUT: true; the input reads as it did. -/
def webWritesSpec : ChangeSpec := { name := "webWrites", fn := fun _ => fun
  | [d1, d2] => { results := [.lit (.bool true)], args := [d1, d2] }
  | _ => none }
def webWritesRow : OpenClaim := { program := "ytgnoiheekgmleaa", sum := "20c3c2a4b499967dac0ffc04680eb5e4ecce5b78fdc06dff5b2596a47fbf1120", func := "kymograph/kymographlaw19.WebWrites", spec := "webWrites", inPlace := ["internal/bytealg.IndexByteString", "internal/abi.NoEscape"], unfollowed := true, recurses := true, apart := false }
def WebWritesSaid : Prop := webWritesRow.holds Try.pinned (OpenSpec.ofChange webWritesSpec)

/-- ITS FALSE NEIGHBOUR: 'it returns false'. Refute it at one input. -/
def webWritesWrong : ChangeSpec := { name := "webWrites", fn := fun _ => fun
  | [d1, d2] => { results := [.lit (.bool false)], args := [d1, d2] }
  | _ => none }
def WebWritesWrongFalsely : Prop := webWritesRow.holds Try.pinned (OpenSpec.ofChange webWritesWrong)

/-- 'kymographlaw19.WebSettings': WHATEVER THE INPUT: true; the input reads as it did. -/
def webSettingsSpec : ChangeSpec := { name := "webSettings", fn := fun _ => fun
  | [d1, d2] => { results := [.lit (.bool true)], args := [d1, d2] }
  | _ => none }
def webSettingsRow : OpenClaim := { program := "ytgnoiheekgmleaa", sum := "20c3c2a4b499967dac0ffc04680eb5e4ecce5b78fdc06dff5b2596a47fbf1120", func := "kymograph/kymographlaw19.WebSettings", spec := "webSettings", inPlace := ["internal/bytealg.IndexByteString", "internal/abi.NoEscape"], unfollowed := true, recurses := true, apart := false }
def WebSettingsSaid : Prop := webSettingsRow.holds Try.pinned (OpenSpec.ofChange webSettingsSpec)

/-- ITS FALSE NEIGHBOUR: 'it returns false'. Refute it at one input. -/
def webSettingsWrong : ChangeSpec := { name := "webSettings", fn := fun _ => fun
  | [d1, d2] => { results := [.lit (.bool false)], args := [d1, d2] }
  | _ => none }
def WebSettingsWrongFalsely : Prop := webSettingsRow.holds Try.pinned (OpenSpec.ofChange webSettingsWrong)

/-- 'kymographlaw19.WebBack': WHATEVER THE INPUT: true; the input reads as it did. -/
def webBackSpec : ChangeSpec := { name := "webBack", fn := fun _ => fun
  | [d1, d2, d3, d4] => { results := [.lit (.bool true)], args := [d1, d2, d3, d4] }
  | _ => none }
def webBackRow : OpenClaim := { program := "ytgnoiheekgmleaa", sum := "20c3c2a4b499967dac0ffc04680eb5e4ecce5b78fdc06dff5b2596a47fbf1120", func := "kymograph/kymographlaw19.WebBack", spec := "webBack", inPlace := ["internal/bytealg.IndexByteString", "internal/abi.NoEscape"], unfollowed := true, recurses := true, apart := false }
def WebBackSaid : Prop := webBackRow.holds Try.pinned (OpenSpec.ofChange webBackSpec)

/-- ITS FALSE NEIGHBOUR: 'it returns false'. Refute it at one input. -/
def webBackWrong : ChangeSpec := { name := "webBack", fn := fun _ => fun
  | [d1, d2, d3, d4] => { results := [.lit (.bool false)], args := [d1, d2, d3, d4] }
  | _ => none }
def WebBackWrongFalsely : Prop := webBackRow.holds Try.pinned (OpenSpec.ofChange webBackWrong)

/-- 'kymographlaw19.WebSkips': WHATEVER THE INPUT: true; the input reads as it did. -/
def webSkipsSpec : ChangeSpec := { name := "webSkips", fn := fun _ => fun
  | [d1, d2, d3, d4] => { results := [.lit (.bool true)], args := [d1, d2, d3, d4] }
  | _ => none }
def webSkipsRow : OpenClaim := { program := "ytgnoiheekgmleaa", sum := "20c3c2a4b499967dac0ffc04680eb5e4ecce5b78fdc06dff5b2596a47fbf1120", func := "kymograph/kymographlaw19.WebSkips", spec := "webSkips", inPlace := ["internal/bytealg.IndexByteString", "internal/abi.NoEscape"], unfollowed := true, recurses := true, apart := false }
def WebSkipsSaid : Prop := webSkipsRow.holds Try.pinned (OpenSpec.ofChange webSkipsSpec)

/-- ITS FALSE NEIGHBOUR: 'it returns false'. Refute it at one input. -/
def webSkipsWrong : ChangeSpec := { name := "webSkips", fn := fun _ => fun
  | [d1, d2, d3, d4] => { results := [.lit (.bool false)], args := [d1, d2, d3, d4] }
  | _ => none }
def WebSkipsWrongFalsely : Prop := webSkipsRow.holds Try.pinned (OpenSpec.ofChange webSkipsWrong)

/- THE SECOND FORM. 'bulk': how many values and letters a reading holds, each counted each time it is reached (what is shared counts as often as it is met; a slice's spare places count too). A statement '..UptoSaid' is the law's where the arguments, and the package variables that the reading takes, are together of bulk at most 1048576: NARROWER than '..Said'. Prove '..Said' where nothing that the law and all that it calls make is longer than what came in: it says more and counts as full. Else prove '..UptoSaid'. A law counts once. -/
mutual
def uptoBulk {H : Type} : DataW H → Nat
  | .lit (.string bytes) => bytes.length + 1
  | .lit _ => 1
  | .nil => 1
  | .ptr d => uptoBulk d + 1
  | .slice elems spare => uptoBulkAll elems + uptoBulkAll spare + 1
  | .agg parts => uptoBulkAll parts + 1
  | .iface _ d => uptoBulk d + 1
  | .map entries => uptoBulkEntries entries + 1
  | .held _ => 1
def uptoBulkAll {H : Type} : List (DataW H) → Nat
  | [] => 0
  | d :: r => uptoBulk d + uptoBulkAll r
def uptoBulkEntries {H : Type} : List (Lit × DataW H) → Nat
  | [] => 0
  | x :: r => uptoBulkEntry x + uptoBulkEntries r
def uptoBulkEntry {H : Type} : Lit × DataW H → Nat
  | (.string bytes, d) => bytes.length + uptoBulk d + 1
  | (_, d) => uptoBulk d + 1
 end
def uptoSmall : (H : Type) → List (DataW H) → Bool := fun _ ds => decide (uptoBulkAll ds ≤ 1048576)
def OpenSpec.upto (s : _root_.Go.ChangeSpec) : _root_.Go.OpenSpec := { _root_.Go.OpenSpec.ofChange s with cond := some uptoSmall }

/-- 'kymographlaw19.WebWrites', WHERE WHAT IT READS IS OF BULK AT MOST 1048576: true; the input reads as it did. -/
def webWritesUptoRow : OpenClaim := { program := "ytgnoiheekgmleaa", sum := "20c3c2a4b499967dac0ffc04680eb5e4ecce5b78fdc06dff5b2596a47fbf1120", func := "kymograph/kymographlaw19.WebWrites", spec := "webWrites", inPlace := ["internal/bytealg.IndexByteString", "internal/abi.NoEscape"], unfollowed := true, recurses := true, apart := false, narrowed := true }
def WebWritesUptoSaid : Prop := webWritesUptoRow.holds Try.pinned (OpenSpec.upto webWritesSpec)

/-- 'kymographlaw19.WebSettings', WHERE WHAT IT READS IS OF BULK AT MOST 1048576: true; the input reads as it did. -/
def webSettingsUptoRow : OpenClaim := { program := "ytgnoiheekgmleaa", sum := "20c3c2a4b499967dac0ffc04680eb5e4ecce5b78fdc06dff5b2596a47fbf1120", func := "kymograph/kymographlaw19.WebSettings", spec := "webSettings", inPlace := ["internal/bytealg.IndexByteString", "internal/abi.NoEscape"], unfollowed := true, recurses := true, apart := false, narrowed := true }
def WebSettingsUptoSaid : Prop := webSettingsUptoRow.holds Try.pinned (OpenSpec.upto webSettingsSpec)

/-- 'kymographlaw19.WebBack', WHERE WHAT IT READS IS OF BULK AT MOST 1048576: true; the input reads as it did. -/
def webBackUptoRow : OpenClaim := { program := "ytgnoiheekgmleaa", sum := "20c3c2a4b499967dac0ffc04680eb5e4ecce5b78fdc06dff5b2596a47fbf1120", func := "kymograph/kymographlaw19.WebBack", spec := "webBack", inPlace := ["internal/bytealg.IndexByteString", "internal/abi.NoEscape"], unfollowed := true, recurses := true, apart := false, narrowed := true }
def WebBackUptoSaid : Prop := webBackUptoRow.holds Try.pinned (OpenSpec.upto webBackSpec)

/-- 'kymographlaw19.WebSkips', WHERE WHAT IT READS IS OF BULK AT MOST 1048576: true; the input reads as it did. -/
def webSkipsUptoRow : OpenClaim := { program := "ytgnoiheekgmleaa", sum := "20c3c2a4b499967dac0ffc04680eb5e4ecce5b78fdc06dff5b2596a47fbf1120", func := "kymograph/kymographlaw19.WebSkips", spec := "webSkips", inPlace := ["internal/bytealg.IndexByteString", "internal/abi.NoEscape"], unfollowed := true, recurses := true, apart := false, narrowed := true }
def WebSkipsUptoSaid : Prop := webSkipsUptoRow.holds Try.pinned (OpenSpec.upto webSkipsSpec)

end Rows
end Go.Proofs.Ytgnoiheekgmleaa
