/-
  No cell of these rows narrows 'for every input' (looked for: loops, veiled, ifaces, maps, wideKeys, modest, calm, conditions, laid).
  DERIVED. THE GIVEN ROWS OF THIS SEAT. 7 by the template 'for every input the law returns true; each argument reads behind the call as it read before'; 0 by the template 'total and deterministic' (their statements: YtlpkapkabehdnaaTotals.lean).
  GIVEN WITH THE SEED: the statements are not yours to turn. If you find one false, say at which input.
  Laid BY PROGRAM, IN A SANDBOX (cutbox-rows.mjs): the forced cells as the released guide's own fill.sh prints them over the translation 83777a620df21ba3… (all of the seat's roots in one cut). By AI agents, Wed Nov 11 2026. No macro, syntax, notation, axiom, sorry.
-/
import Derived.Test.YtlpkapkabehdnaaChecked
import GoSem.Claim
import GoSem.ClaimJoined
import GoSem.ClaimMapViews
import Derived.JoinedTies
import Derived.KernelRfl
namespace Go.Proofs.Ytlpkapkabehdnaa
/- THE CELL 'sum', in the pinned program and in every row, IS THE sha256 OF THE DUMP (.gsa) THAT YtlpkapkabehdnaaProg.lean LOADS. Nothing in Lean hashes anything: it is a label: what it is worth is what the hold of that sum in a sandbox is worth. -/
noncomputable def Try.pinned : Pinned := { name := "ytlpkapkabehdnaa", sum := "83777a620df21ba3002d213e51c7b35296d8cb7260299d0cea666da7dd705478", checked := Try.checked }
namespace Rows
def none {H : Type} : Left H := { results := [], args := [] }

/-- 'kymographlaw01.VarintTells': WHATEVER THE INPUT: true; the input reads as it did. -/
def varintTellsSpec : ChangeSpec := { name := "varintTells", fn := fun _ => fun
  | [d1, d2, d3] => { results := [.lit (.bool true)], args := [d1, d2, d3] }
  | _ => none }
def varintTellsRow : OpenClaim := { program := "ytlpkapkabehdnaa", sum := "83777a620df21ba3002d213e51c7b35296d8cb7260299d0cea666da7dd705478", func := "kymograph/kymographlaw01.VarintTells", spec := "varintTells", apart := false }
def VarintTellsSaid : Prop := varintTellsRow.holds Try.pinned (OpenSpec.ofChange varintTellsSpec)

/-- ITS FALSE NEIGHBOUR: 'it returns false'. Refute it at one input. -/
def varintTellsWrong : ChangeSpec := { name := "varintTells", fn := fun _ => fun
  | [d1, d2, d3] => { results := [.lit (.bool false)], args := [d1, d2, d3] }
  | _ => none }
def VarintTellsWrongFalsely : Prop := varintTellsRow.holds Try.pinned (OpenSpec.ofChange varintTellsWrong)

/-- 'kymographlaw01.VarintCuts': WHATEVER THE INPUT: true; the input reads as it did. -/
def varintCutsSpec : ChangeSpec := { name := "varintCuts", fn := fun _ => fun
  | [d1, d2, d3, d4] => { results := [.lit (.bool true)], args := [d1, d2, d3, d4] }
  | _ => none }
def varintCutsRow : OpenClaim := { program := "ytlpkapkabehdnaa", sum := "83777a620df21ba3002d213e51c7b35296d8cb7260299d0cea666da7dd705478", func := "kymograph/kymographlaw01.VarintCuts", spec := "varintCuts", apart := false }
def VarintCutsSaid : Prop := varintCutsRow.holds Try.pinned (OpenSpec.ofChange varintCutsSpec)

/-- ITS FALSE NEIGHBOUR: 'it returns false'. Refute it at one input. -/
def varintCutsWrong : ChangeSpec := { name := "varintCuts", fn := fun _ => fun
  | [d1, d2, d3, d4] => { results := [.lit (.bool false)], args := [d1, d2, d3, d4] }
  | _ => none }
def VarintCutsWrongFalsely : Prop := varintCutsRow.holds Try.pinned (OpenSpec.ofChange varintCutsWrong)

/-- 'kymographlaw01.VarintBack': WHATEVER THE INPUT: true; the input reads as it did. -/
def varintBackSpec : ChangeSpec := { name := "varintBack", fn := fun _ => fun
  | [d1, d2, d3] => { results := [.lit (.bool true)], args := [d1, d2, d3] }
  | _ => none }
def varintBackRow : OpenClaim := { program := "ytlpkapkabehdnaa", sum := "83777a620df21ba3002d213e51c7b35296d8cb7260299d0cea666da7dd705478", func := "kymograph/kymographlaw01.VarintBack", spec := "varintBack", apart := false }
def VarintBackSaid : Prop := varintBackRow.holds Try.pinned (OpenSpec.ofChange varintBackSpec)

/-- ITS FALSE NEIGHBOUR: 'it returns false'. Refute it at one input. -/
def varintBackWrong : ChangeSpec := { name := "varintBack", fn := fun _ => fun
  | [d1, d2, d3] => { results := [.lit (.bool false)], args := [d1, d2, d3] }
  | _ => none }
def VarintBackWrongFalsely : Prop := varintBackRow.holds Try.pinned (OpenSpec.ofChange varintBackWrong)

/-- 'kymographlaw01.VarintAgain': WHATEVER THE INPUT: true; the input reads as it did. -/
def varintAgainSpec : ChangeSpec := { name := "varintAgain", fn := fun _ => fun
  | [d1, d2, d3, d4] => { results := [.lit (.bool true)], args := [d1, d2, d3, d4] }
  | _ => none }
def varintAgainRow : OpenClaim := { program := "ytlpkapkabehdnaa", sum := "83777a620df21ba3002d213e51c7b35296d8cb7260299d0cea666da7dd705478", func := "kymograph/kymographlaw01.VarintAgain", spec := "varintAgain", apart := false }
def VarintAgainSaid : Prop := varintAgainRow.holds Try.pinned (OpenSpec.ofChange varintAgainSpec)

/-- ITS FALSE NEIGHBOUR: 'it returns false'. Refute it at one input. -/
def varintAgainWrong : ChangeSpec := { name := "varintAgain", fn := fun _ => fun
  | [d1, d2, d3, d4] => { results := [.lit (.bool false)], args := [d1, d2, d3, d4] }
  | _ => none }
def VarintAgainWrongFalsely : Prop := varintAgainRow.holds Try.pinned (OpenSpec.ofChange varintAgainWrong)

/-- 'kymographlaw01.VarintNear': WHATEVER THE INPUT: true; the input reads as it did. -/
def varintNearSpec : ChangeSpec := { name := "varintNear", fn := fun _ => fun
  | [d1, d2] => { results := [.lit (.bool true)], args := [d1, d2] }
  | _ => none }
def varintNearRow : OpenClaim := { program := "ytlpkapkabehdnaa", sum := "83777a620df21ba3002d213e51c7b35296d8cb7260299d0cea666da7dd705478", func := "kymograph/kymographlaw01.VarintNear", spec := "varintNear", unfollowed := true, recurses := true, apart := false }
def VarintNearSaid : Prop := varintNearRow.holds Try.pinned (OpenSpec.ofChange varintNearSpec)

/-- ITS FALSE NEIGHBOUR: 'it returns false'. Refute it at one input. -/
def varintNearWrong : ChangeSpec := { name := "varintNear", fn := fun _ => fun
  | [d1, d2] => { results := [.lit (.bool false)], args := [d1, d2] }
  | _ => none }
def VarintNearWrongFalsely : Prop := varintNearRow.holds Try.pinned (OpenSpec.ofChange varintNearWrong)

/-- 'kymographlaw01.VarintOrder': WHATEVER THE INPUT: true; the input reads as it did. -/
def varintOrderSpec : ChangeSpec := { name := "varintOrder", fn := fun _ => fun
  | [d1, d2] => { results := [.lit (.bool true)], args := [d1, d2] }
  | _ => none }
def varintOrderRow : OpenClaim := { program := "ytlpkapkabehdnaa", sum := "83777a620df21ba3002d213e51c7b35296d8cb7260299d0cea666da7dd705478", func := "kymograph/kymographlaw01.VarintOrder", spec := "varintOrder", apart := false }
def VarintOrderSaid : Prop := varintOrderRow.holds Try.pinned (OpenSpec.ofChange varintOrderSpec)

/-- ITS FALSE NEIGHBOUR: 'it returns false'. Refute it at one input. -/
def varintOrderWrong : ChangeSpec := { name := "varintOrder", fn := fun _ => fun
  | [d1, d2] => { results := [.lit (.bool false)], args := [d1, d2] }
  | _ => none }
def VarintOrderWrongFalsely : Prop := varintOrderRow.holds Try.pinned (OpenSpec.ofChange varintOrderWrong)

/-- 'kymographlaw01.VarintJoin': WHATEVER THE INPUT: true; the input reads as it did. -/
def varintJoinSpec : ChangeSpec := { name := "varintJoin", fn := fun _ => fun
  | [d1, d2] => { results := [.lit (.bool true)], args := [d1, d2] }
  | _ => none }
def varintJoinRow : OpenClaim := { program := "ytlpkapkabehdnaa", sum := "83777a620df21ba3002d213e51c7b35296d8cb7260299d0cea666da7dd705478", func := "kymograph/kymographlaw01.VarintJoin", spec := "varintJoin", apart := false }
def VarintJoinSaid : Prop := varintJoinRow.holds Try.pinned (OpenSpec.ofChange varintJoinSpec)

/-- ITS FALSE NEIGHBOUR: 'it returns false'. Refute it at one input. -/
def varintJoinWrong : ChangeSpec := { name := "varintJoin", fn := fun _ => fun
  | [d1, d2] => { results := [.lit (.bool false)], args := [d1, d2] }
  | _ => none }
def VarintJoinWrongFalsely : Prop := varintJoinRow.holds Try.pinned (OpenSpec.ofChange varintJoinWrong)

/- THE SECOND FORM. 'bulk': how many values and letters a reading holds, each counted each time it is reached (what is shared counts as often as it is met; a slice's spare places count too). A statement '..UptoSaid' is the law's where the arguments, and the package variables that the reading takes, are together of bulk at most 1048576: NARROWER than '..Said'. Prove '..Said' where nothing that the law and all that it calls make is longer than what came in: it says more and counts as full. Else prove '..UptoSaid'. A law counts once. -/
mutual
def uptoBulk {H : Type} : DataW H → Nat
  | .lit (.string bytes) => bytes.length + 1
  | .lit _ => 1
  | .nil => 1
  | .ptr d => uptoBulk d + 1
  | .slice elems spare => uptoBulkAll elems + uptoBulkAll spare + 1
  | .agg parts => uptoBulkAll parts + 1
  | .iface _ d => uptoBulk d + 1
  | .map entries => uptoBulkEntries entries + 1
  | .held _ => 1
def uptoBulkAll {H : Type} : List (DataW H) → Nat
  | [] => 0
  | d :: r => uptoBulk d + uptoBulkAll r
def uptoBulkEntries {H : Type} : List (Lit × DataW H) → Nat
  | [] => 0
  | x :: r => uptoBulkEntry x + uptoBulkEntries r
def uptoBulkEntry {H : Type} : Lit × DataW H → Nat
  | (.string bytes, d) => bytes.length + uptoBulk d + 1
  | (_, d) => uptoBulk d + 1
 end
def uptoSmall : (H : Type) → List (DataW H) → Bool := fun _ ds => decide (uptoBulkAll ds ≤ 1048576)
def OpenSpec.upto (s : _root_.Go.ChangeSpec) : _root_.Go.OpenSpec := { _root_.Go.OpenSpec.ofChange s with cond := some uptoSmall }

/-- 'kymographlaw01.VarintTells', WHERE WHAT IT READS IS OF BULK AT MOST 1048576: true; the input reads as it did. -/
def varintTellsUptoRow : OpenClaim := { program := "ytlpkapkabehdnaa", sum := "83777a620df21ba3002d213e51c7b35296d8cb7260299d0cea666da7dd705478", func := "kymograph/kymographlaw01.VarintTells", spec := "varintTells", apart := false, narrowed := true }
def VarintTellsUptoSaid : Prop := varintTellsUptoRow.holds Try.pinned (OpenSpec.upto varintTellsSpec)

/-- 'kymographlaw01.VarintCuts', WHERE WHAT IT READS IS OF BULK AT MOST 1048576: true; the input reads as it did. -/
def varintCutsUptoRow : OpenClaim := { program := "ytlpkapkabehdnaa", sum := "83777a620df21ba3002d213e51c7b35296d8cb7260299d0cea666da7dd705478", func := "kymograph/kymographlaw01.VarintCuts", spec := "varintCuts", apart := false, narrowed := true }
def VarintCutsUptoSaid : Prop := varintCutsUptoRow.holds Try.pinned (OpenSpec.upto varintCutsSpec)

/-- 'kymographlaw01.VarintBack', WHERE WHAT IT READS IS OF BULK AT MOST 1048576: true; the input reads as it did. -/
def varintBackUptoRow : OpenClaim := { program := "ytlpkapkabehdnaa", sum := "83777a620df21ba3002d213e51c7b35296d8cb7260299d0cea666da7dd705478", func := "kymograph/kymographlaw01.VarintBack", spec := "varintBack", apart := false, narrowed := true }
def VarintBackUptoSaid : Prop := varintBackUptoRow.holds Try.pinned (OpenSpec.upto varintBackSpec)

/-- 'kymographlaw01.VarintAgain', WHERE WHAT IT READS IS OF BULK AT MOST 1048576: true; the input reads as it did. -/
def varintAgainUptoRow : OpenClaim := { program := "ytlpkapkabehdnaa", sum := "83777a620df21ba3002d213e51c7b35296d8cb7260299d0cea666da7dd705478", func := "kymograph/kymographlaw01.VarintAgain", spec := "varintAgain", apart := false, narrowed := true }
def VarintAgainUptoSaid : Prop := varintAgainUptoRow.holds Try.pinned (OpenSpec.upto varintAgainSpec)

/-- 'kymographlaw01.VarintNear', WHERE WHAT IT READS IS OF BULK AT MOST 1048576: true; the input reads as it did. -/
def varintNearUptoRow : OpenClaim := { program := "ytlpkapkabehdnaa", sum := "83777a620df21ba3002d213e51c7b35296d8cb7260299d0cea666da7dd705478", func := "kymograph/kymographlaw01.VarintNear", spec := "varintNear", unfollowed := true, recurses := true, apart := false, narrowed := true }
def VarintNearUptoSaid : Prop := varintNearUptoRow.holds Try.pinned (OpenSpec.upto varintNearSpec)

/-- 'kymographlaw01.VarintOrder', WHERE WHAT IT READS IS OF BULK AT MOST 1048576: true; the input reads as it did. -/
def varintOrderUptoRow : OpenClaim := { program := "ytlpkapkabehdnaa", sum := "83777a620df21ba3002d213e51c7b35296d8cb7260299d0cea666da7dd705478", func := "kymograph/kymographlaw01.VarintOrder", spec := "varintOrder", apart := false, narrowed := true }
def VarintOrderUptoSaid : Prop := varintOrderUptoRow.holds Try.pinned (OpenSpec.upto varintOrderSpec)

/-- 'kymographlaw01.VarintJoin', WHERE WHAT IT READS IS OF BULK AT MOST 1048576: true; the input reads as it did. -/
def varintJoinUptoRow : OpenClaim := { program := "ytlpkapkabehdnaa", sum := "83777a620df21ba3002d213e51c7b35296d8cb7260299d0cea666da7dd705478", func := "kymograph/kymographlaw01.VarintJoin", spec := "varintJoin", apart := false, narrowed := true }
def VarintJoinUptoSaid : Prop := varintJoinUptoRow.holds Try.pinned (OpenSpec.upto varintJoinSpec)

end Rows
end Go.Proofs.Ytlpkapkabehdnaa
