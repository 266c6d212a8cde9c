/-
  No cell of these rows narrows 'for every input' (looked for: loops, veiled, ifaces, maps, wideKeys, modest, calm, conditions, laid).
  DERIVED. THE GIVEN ROWS OF THIS SEAT. 7 by the template 'for every input the law returns true; each argument reads behind the call as it read before'; 0 by the template 'total and deterministic' (their statements: YtacjhnalhfhdkaaTotals.lean).
  GIVEN WITH THE SEED: the statements are not yours to turn. If you find one false, say at which input.
  Laid BY PROGRAM, IN A SANDBOX (cutbox-rows.mjs): the forced cells as the released guide's own fill.sh prints them over the translation 3df80a441acb855f… (all of the seat's roots in one cut). By AI agents, Wed Nov 11 2026. No macro, syntax, notation, axiom, sorry.
-/
import Derived.Test.YtacjhnalhfhdkaaChecked
import GoSem.Claim
import GoSem.ClaimJoined
import GoSem.ClaimMapViews
import Derived.JoinedTies
import Derived.KernelRfl
namespace Go.Proofs.Ytacjhnalhfhdkaa
/- THE CELL 'sum', in the pinned program and in every row, IS THE sha256 OF THE DUMP (.gsa) THAT YtacjhnalhfhdkaaProg.lean LOADS. Nothing in Lean hashes anything: it is a label: what it is worth is what the hold of that sum in a sandbox is worth. -/
noncomputable def Try.pinned : Pinned := { name := "ytacjhnalhfhdkaa", sum := "3df80a441acb855f455f5f43ee45397d1c519c3cfe1dda58147a4044c88aa99e", checked := Try.checked }
namespace Rows
def none {H : Type} : Left H := { results := [], args := [] }

/-- 'kymographlaw17.HuffTells': WHATEVER THE INPUT: true; the input reads as it did. -/
def huffTellsSpec : ChangeSpec := { name := "huffTells", fn := fun _ => fun
  | [d1, d2] => { results := [.lit (.bool true)], args := [d1, d2] }
  | _ => none }
def huffTellsRow : OpenClaim := { program := "ytacjhnalhfhdkaa", sum := "3df80a441acb855f455f5f43ee45397d1c519c3cfe1dda58147a4044c88aa99e", func := "kymograph/kymographlaw17.HuffTells", spec := "huffTells", inPlace := ["internal/bytealg.IndexByteString"], apart := false }
def HuffTellsSaid : Prop := huffTellsRow.holds Try.pinned (OpenSpec.ofChange huffTellsSpec)

/-- ITS FALSE NEIGHBOUR: 'it returns false'. Refute it at one input. -/
def huffTellsWrong : ChangeSpec := { name := "huffTells", fn := fun _ => fun
  | [d1, d2] => { results := [.lit (.bool false)], args := [d1, d2] }
  | _ => none }
def HuffTellsWrongFalsely : Prop := huffTellsRow.holds Try.pinned (OpenSpec.ofChange huffTellsWrong)

/-- 'kymographlaw17.HuffReads': WHATEVER THE INPUT: true; the input reads as it did. -/
def huffReadsSpec : ChangeSpec := { name := "huffReads", fn := fun _ => fun
  | [d] => { results := [.lit (.bool true)], args := [d] }
  | _ => none }
def huffReadsRow : OpenClaim := { program := "ytacjhnalhfhdkaa", sum := "3df80a441acb855f455f5f43ee45397d1c519c3cfe1dda58147a4044c88aa99e", func := "kymograph/kymographlaw17.HuffReads", spec := "huffReads", inPlace := ["internal/bytealg.IndexByteString"], apart := false }
def HuffReadsSaid : Prop := huffReadsRow.holds Try.pinned (OpenSpec.ofChange huffReadsSpec)

/-- ITS FALSE NEIGHBOUR: 'it returns false'. Refute it at one input. -/
def huffReadsWrong : ChangeSpec := { name := "huffReads", fn := fun _ => fun
  | [d] => { results := [.lit (.bool false)], args := [d] }
  | _ => none }
def HuffReadsWrongFalsely : Prop := huffReadsRow.holds Try.pinned (OpenSpec.ofChange huffReadsWrong)

/-- 'kymographlaw17.HuffBack': WHATEVER THE INPUT: true; the input reads as it did. -/
def huffBackSpec : ChangeSpec := { name := "huffBack", fn := fun _ => fun
  | [d1, d2] => { results := [.lit (.bool true)], args := [d1, d2] }
  | _ => none }
def huffBackRow : OpenClaim := { program := "ytacjhnalhfhdkaa", sum := "3df80a441acb855f455f5f43ee45397d1c519c3cfe1dda58147a4044c88aa99e", func := "kymograph/kymographlaw17.HuffBack", spec := "huffBack", inPlace := ["internal/bytealg.IndexByteString"], apart := false }
def HuffBackSaid : Prop := huffBackRow.holds Try.pinned (OpenSpec.ofChange huffBackSpec)

/-- ITS FALSE NEIGHBOUR: 'it returns false'. Refute it at one input. -/
def huffBackWrong : ChangeSpec := { name := "huffBack", fn := fun _ => fun
  | [d1, d2] => { results := [.lit (.bool false)], args := [d1, d2] }
  | _ => none }
def HuffBackWrongFalsely : Prop := huffBackRow.holds Try.pinned (OpenSpec.ofChange huffBackWrong)

/-- 'kymographlaw17.HuffApart': WHATEVER THE INPUT: true; the input reads as it did. -/
def huffApartSpec : ChangeSpec := { name := "huffApart", fn := fun _ => fun
  | [d1, d2] => { results := [.lit (.bool true)], args := [d1, d2] }
  | _ => none }
def huffApartRow : OpenClaim := { program := "ytacjhnalhfhdkaa", sum := "3df80a441acb855f455f5f43ee45397d1c519c3cfe1dda58147a4044c88aa99e", func := "kymograph/kymographlaw17.HuffApart", spec := "huffApart", inPlace := ["internal/bytealg.IndexByteString"], apart := false }
def HuffApartSaid : Prop := huffApartRow.holds Try.pinned (OpenSpec.ofChange huffApartSpec)

/-- ITS FALSE NEIGHBOUR: 'it returns false'. Refute it at one input. -/
def huffApartWrong : ChangeSpec := { name := "huffApart", fn := fun _ => fun
  | [d1, d2] => { results := [.lit (.bool false)], args := [d1, d2] }
  | _ => none }
def HuffApartWrongFalsely : Prop := huffApartRow.holds Try.pinned (OpenSpec.ofChange huffApartWrong)

/-- 'kymographlaw17.HuffOrder': WHATEVER THE INPUT: true; the input reads as it did. -/
def huffOrderSpec : ChangeSpec := { name := "huffOrder", fn := fun _ => fun
  | [d1, d2] => { results := [.lit (.bool true)], args := [d1, d2] }
  | _ => none }
def huffOrderRow : OpenClaim := { program := "ytacjhnalhfhdkaa", sum := "3df80a441acb855f455f5f43ee45397d1c519c3cfe1dda58147a4044c88aa99e", func := "kymograph/kymographlaw17.HuffOrder", spec := "huffOrder", inPlace := ["internal/bytealg.IndexByteString"], apart := false }
def HuffOrderSaid : Prop := huffOrderRow.holds Try.pinned (OpenSpec.ofChange huffOrderSpec)

/-- ITS FALSE NEIGHBOUR: 'it returns false'. Refute it at one input. -/
def huffOrderWrong : ChangeSpec := { name := "huffOrder", fn := fun _ => fun
  | [d1, d2] => { results := [.lit (.bool false)], args := [d1, d2] }
  | _ => none }
def HuffOrderWrongFalsely : Prop := huffOrderRow.holds Try.pinned (OpenSpec.ofChange huffOrderWrong)

/-- 'kymographlaw17.HuffShort': WHATEVER THE INPUT: true; the input reads as it did. -/
def huffShortSpec : ChangeSpec := { name := "huffShort", fn := fun _ => fun
  | [d1, d2] => { results := [.lit (.bool true)], args := [d1, d2] }
  | _ => none }
def huffShortRow : OpenClaim := { program := "ytacjhnalhfhdkaa", sum := "3df80a441acb855f455f5f43ee45397d1c519c3cfe1dda58147a4044c88aa99e", func := "kymograph/kymographlaw17.HuffShort", spec := "huffShort", inPlace := ["internal/bytealg.IndexByteString"], apart := false }
def HuffShortSaid : Prop := huffShortRow.holds Try.pinned (OpenSpec.ofChange huffShortSpec)

/-- ITS FALSE NEIGHBOUR: 'it returns false'. Refute it at one input. -/
def huffShortWrong : ChangeSpec := { name := "huffShort", fn := fun _ => fun
  | [d1, d2] => { results := [.lit (.bool false)], args := [d1, d2] }
  | _ => none }
def HuffShortWrongFalsely : Prop := huffShortRow.holds Try.pinned (OpenSpec.ofChange huffShortWrong)

/-- 'kymographlaw17.HuffGoes': WHATEVER THE INPUT: true; the input reads as it did. -/
def huffGoesSpec : ChangeSpec := { name := "huffGoes", fn := fun _ => fun
  | [d1, d2] => { results := [.lit (.bool true)], args := [d1, d2] }
  | _ => none }
def huffGoesRow : OpenClaim := { program := "ytacjhnalhfhdkaa", sum := "3df80a441acb855f455f5f43ee45397d1c519c3cfe1dda58147a4044c88aa99e", func := "kymograph/kymographlaw17.HuffGoes", spec := "huffGoes", inPlace := ["internal/bytealg.IndexByteString"], apart := false }
def HuffGoesSaid : Prop := huffGoesRow.holds Try.pinned (OpenSpec.ofChange huffGoesSpec)

/-- ITS FALSE NEIGHBOUR: 'it returns false'. Refute it at one input. -/
def huffGoesWrong : ChangeSpec := { name := "huffGoes", fn := fun _ => fun
  | [d1, d2] => { results := [.lit (.bool false)], args := [d1, d2] }
  | _ => none }
def HuffGoesWrongFalsely : Prop := huffGoesRow.holds Try.pinned (OpenSpec.ofChange huffGoesWrong)

/- THE SECOND FORM. 'bulk': how many values and letters a reading holds, each counted each time it is reached (what is shared counts as often as it is met; a slice's spare places count too). A statement '..UptoSaid' is the law's where the arguments, and the package variables that the reading takes, are together of bulk at most 1048576: NARROWER than '..Said'. Prove '..Said' where nothing that the law and all that it calls make is longer than what came in: it says more and counts as full. Else prove '..UptoSaid'. A law counts once. -/
mutual
def uptoBulk {H : Type} : DataW H → Nat
  | .lit (.string bytes) => bytes.length + 1
  | .lit _ => 1
  | .nil => 1
  | .ptr d => uptoBulk d + 1
  | .slice elems spare => uptoBulkAll elems + uptoBulkAll spare + 1
  | .agg parts => uptoBulkAll parts + 1
  | .iface _ d => uptoBulk d + 1
  | .map entries => uptoBulkEntries entries + 1
  | .held _ => 1
def uptoBulkAll {H : Type} : List (DataW H) → Nat
  | [] => 0
  | d :: r => uptoBulk d + uptoBulkAll r
def uptoBulkEntries {H : Type} : List (Lit × DataW H) → Nat
  | [] => 0
  | x :: r => uptoBulkEntry x + uptoBulkEntries r
def uptoBulkEntry {H : Type} : Lit × DataW H → Nat
  | (.string bytes, d) => bytes.length + uptoBulk d + 1
  | (_, d) => uptoBulk d + 1
 end
def uptoSmall : (H : Type) → List (DataW H) → Bool := fun _ ds => decide (uptoBulkAll ds ≤ 1048576)
def OpenSpec.upto (s : _root_.Go.ChangeSpec) : _root_.Go.OpenSpec := { _root_.Go.OpenSpec.ofChange s with cond := some uptoSmall }

/-- 'kymographlaw17.HuffTells', WHERE WHAT IT READS IS OF BULK AT MOST 1048576: true; the input reads as it did. -/
def huffTellsUptoRow : OpenClaim := { program := "ytacjhnalhfhdkaa", sum := "3df80a441acb855f455f5f43ee45397d1c519c3cfe1dda58147a4044c88aa99e", func := "kymograph/kymographlaw17.HuffTells", spec := "huffTells", inPlace := ["internal/bytealg.IndexByteString"], apart := false, narrowed := true }
def HuffTellsUptoSaid : Prop := huffTellsUptoRow.holds Try.pinned (OpenSpec.upto huffTellsSpec)

/-- 'kymographlaw17.HuffReads', WHERE WHAT IT READS IS OF BULK AT MOST 1048576: true; the input reads as it did. -/
def huffReadsUptoRow : OpenClaim := { program := "ytacjhnalhfhdkaa", sum := "3df80a441acb855f455f5f43ee45397d1c519c3cfe1dda58147a4044c88aa99e", func := "kymograph/kymographlaw17.HuffReads", spec := "huffReads", inPlace := ["internal/bytealg.IndexByteString"], apart := false, narrowed := true }
def HuffReadsUptoSaid : Prop := huffReadsUptoRow.holds Try.pinned (OpenSpec.upto huffReadsSpec)

/-- 'kymographlaw17.HuffBack', WHERE WHAT IT READS IS OF BULK AT MOST 1048576: true; the input reads as it did. -/
def huffBackUptoRow : OpenClaim := { program := "ytacjhnalhfhdkaa", sum := "3df80a441acb855f455f5f43ee45397d1c519c3cfe1dda58147a4044c88aa99e", func := "kymograph/kymographlaw17.HuffBack", spec := "huffBack", inPlace := ["internal/bytealg.IndexByteString"], apart := false, narrowed := true }
def HuffBackUptoSaid : Prop := huffBackUptoRow.holds Try.pinned (OpenSpec.upto huffBackSpec)

/-- 'kymographlaw17.HuffApart', WHERE WHAT IT READS IS OF BULK AT MOST 1048576: true; the input reads as it did. -/
def huffApartUptoRow : OpenClaim := { program := "ytacjhnalhfhdkaa", sum := "3df80a441acb855f455f5f43ee45397d1c519c3cfe1dda58147a4044c88aa99e", func := "kymograph/kymographlaw17.HuffApart", spec := "huffApart", inPlace := ["internal/bytealg.IndexByteString"], apart := false, narrowed := true }
def HuffApartUptoSaid : Prop := huffApartUptoRow.holds Try.pinned (OpenSpec.upto huffApartSpec)

/-- 'kymographlaw17.HuffOrder', WHERE WHAT IT READS IS OF BULK AT MOST 1048576: true; the input reads as it did. -/
def huffOrderUptoRow : OpenClaim := { program := "ytacjhnalhfhdkaa", sum := "3df80a441acb855f455f5f43ee45397d1c519c3cfe1dda58147a4044c88aa99e", func := "kymograph/kymographlaw17.HuffOrder", spec := "huffOrder", inPlace := ["internal/bytealg.IndexByteString"], apart := false, narrowed := true }
def HuffOrderUptoSaid : Prop := huffOrderUptoRow.holds Try.pinned (OpenSpec.upto huffOrderSpec)

/-- 'kymographlaw17.HuffShort', WHERE WHAT IT READS IS OF BULK AT MOST 1048576: true; the input reads as it did. -/
def huffShortUptoRow : OpenClaim := { program := "ytacjhnalhfhdkaa", sum := "3df80a441acb855f455f5f43ee45397d1c519c3cfe1dda58147a4044c88aa99e", func := "kymograph/kymographlaw17.HuffShort", spec := "huffShort", inPlace := ["internal/bytealg.IndexByteString"], apart := false, narrowed := true }
def HuffShortUptoSaid : Prop := huffShortUptoRow.holds Try.pinned (OpenSpec.upto huffShortSpec)

/-- 'kymographlaw17.HuffGoes', WHERE WHAT IT READS IS OF BULK AT MOST 1048576: true; the input reads as it did. -/
def huffGoesUptoRow : OpenClaim := { program := "ytacjhnalhfhdkaa", sum := "3df80a441acb855f455f5f43ee45397d1c519c3cfe1dda58147a4044c88aa99e", func := "kymograph/kymographlaw17.HuffGoes", spec := "huffGoes", inPlace := ["internal/bytealg.IndexByteString"], apart := false, narrowed := true }
def HuffGoesUptoSaid : Prop := huffGoesUptoRow.holds Try.pinned (OpenSpec.upto huffGoesSpec)

end Rows
end Go.Proofs.Ytacjhnalhfhdkaa
