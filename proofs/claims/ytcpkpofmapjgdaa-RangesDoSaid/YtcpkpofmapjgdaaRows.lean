/-
  No cell of these rows narrows 'for every input' (looked for: loops, veiled, ifaces, maps, wideKeys, modest, calm, conditions, laid).
  DERIVED. THE GIVEN ROWS OF THIS SEAT. 7 by the template 'for every input the law returns true; each argument reads behind the call as it read before'; 0 by the template 'total and deterministic' (their statements: YtcpkpofmapjgdaaTotals.lean).
  GIVEN WITH THE SEED: the statements are not yours to turn. If you find one false, say at which input.
  Laid BY PROGRAM, IN A SANDBOX (cutbox-rows.mjs): the forced cells as the released guide's own fill.sh prints them over the translation 1679891849f1fc79… (all of the seat's roots in one cut). By AI agents, Wed Nov 11 2026. No macro, syntax, notation, axiom, sorry.
-/
import Derived.Test.YtcpkpofmapjgdaaChecked
import GoSem.Claim
import GoSem.ClaimJoined
import GoSem.ClaimMapViews
import Derived.JoinedTies
import Derived.KernelRfl
namespace Go.Proofs.Ytcpkpofmapjgdaa
/- THE CELL 'sum', in the pinned program and in every row, IS THE sha256 OF THE DUMP (.gsa) THAT YtcpkpofmapjgdaaProg.lean LOADS. Nothing in Lean hashes anything: it is a label: what it is worth is what the hold of that sum in a sandbox is worth. -/
noncomputable def Try.pinned : Pinned := { name := "ytcpkpofmapjgdaa", sum := "1679891849f1fc796da6d2b2b9bbd504c4b4f426462d5492686fd131d2723485", checked := Try.checked }
namespace Rows
def none {H : Type} : Left H := { results := [], args := [] }

/-- 'kymographlaw08.RangesDo': WHATEVER THE INPUT: true; the input reads as it did. -/
def rangesDoSpec : ChangeSpec := { name := "rangesDo", fn := fun _ => fun
  | [d1, d2, d3, d4] => { results := [.lit (.bool true)], args := [d1, d2, d3, d4] }
  | _ => none }
def rangesDoRow : OpenClaim := { program := "ytcpkpofmapjgdaa", sum := "1679891849f1fc796da6d2b2b9bbd504c4b4f426462d5492686fd131d2723485", func := "kymograph/kymographlaw08.RangesDo", spec := "rangesDo", inPlace := ["slices.overlaps[kymograph/api.Range]"], unfollowed := true, recurses := true, apart := false }
def RangesDoSaid : Prop := rangesDoRow.holds Try.pinned (OpenSpec.ofChange rangesDoSpec)

/-- ITS FALSE NEIGHBOUR: 'it returns false'. Refute it at one input. -/
def rangesDoWrong : ChangeSpec := { name := "rangesDo", fn := fun _ => fun
  | [d1, d2, d3, d4] => { results := [.lit (.bool false)], args := [d1, d2, d3, d4] }
  | _ => none }
def RangesDoWrongFalsely : Prop := rangesDoRow.holds Try.pinned (OpenSpec.ofChange rangesDoWrong)

/-- 'kymographlaw08.RangesOrder': WHATEVER THE INPUT: true; the input reads as it did. -/
def rangesOrderSpec : ChangeSpec := { name := "rangesOrder", fn := fun _ => fun
  | [d] => { results := [.lit (.bool true)], args := [d] }
  | _ => none }
def rangesOrderRow : OpenClaim := { program := "ytcpkpofmapjgdaa", sum := "1679891849f1fc796da6d2b2b9bbd504c4b4f426462d5492686fd131d2723485", func := "kymograph/kymographlaw08.RangesOrder", spec := "rangesOrder", inPlace := ["slices.overlaps[kymograph/api.Range]"], unfollowed := true, recurses := true, apart := false }
def RangesOrderSaid : Prop := rangesOrderRow.holds Try.pinned (OpenSpec.ofChange rangesOrderSpec)

/-- ITS FALSE NEIGHBOUR: 'it returns false'. Refute it at one input. -/
def rangesOrderWrong : ChangeSpec := { name := "rangesOrder", fn := fun _ => fun
  | [d] => { results := [.lit (.bool false)], args := [d] }
  | _ => none }
def RangesOrderWrongFalsely : Prop := rangesOrderRow.holds Try.pinned (OpenSpec.ofChange rangesOrderWrong)

/-- 'kymographlaw08.RangesHold': WHATEVER THE INPUT: true; the input reads as it did. -/
def rangesHoldSpec : ChangeSpec := { name := "rangesHold", fn := fun _ => fun
  | [d1, d2] => { results := [.lit (.bool true)], args := [d1, d2] }
  | _ => none }
def rangesHoldRow : OpenClaim := { program := "ytcpkpofmapjgdaa", sum := "1679891849f1fc796da6d2b2b9bbd504c4b4f426462d5492686fd131d2723485", func := "kymograph/kymographlaw08.RangesHold", spec := "rangesHold", inPlace := ["slices.overlaps[kymograph/api.Range]"], unfollowed := true, recurses := true, apart := false }
def RangesHoldSaid : Prop := rangesHoldRow.holds Try.pinned (OpenSpec.ofChange rangesHoldSpec)

/-- ITS FALSE NEIGHBOUR: 'it returns false'. Refute it at one input. -/
def rangesHoldWrong : ChangeSpec := { name := "rangesHold", fn := fun _ => fun
  | [d1, d2] => { results := [.lit (.bool false)], args := [d1, d2] }
  | _ => none }
def RangesHoldWrongFalsely : Prop := rangesHoldRow.holds Try.pinned (OpenSpec.ofChange rangesHoldWrong)

/-- 'kymographlaw08.RangesApart': WHATEVER THE INPUT: true; the input reads as it did. -/
def rangesApartSpec : ChangeSpec := { name := "rangesApart", fn := fun _ => fun
  | [d] => { results := [.lit (.bool true)], args := [d] }
  | _ => none }
def rangesApartRow : OpenClaim := { program := "ytcpkpofmapjgdaa", sum := "1679891849f1fc796da6d2b2b9bbd504c4b4f426462d5492686fd131d2723485", func := "kymograph/kymographlaw08.RangesApart", spec := "rangesApart", inPlace := ["slices.overlaps[kymograph/api.Range]"], unfollowed := true, recurses := true, apart := false }
def RangesApartSaid : Prop := rangesApartRow.holds Try.pinned (OpenSpec.ofChange rangesApartSpec)

/-- ITS FALSE NEIGHBOUR: 'it returns false'. Refute it at one input. -/
def rangesApartWrong : ChangeSpec := { name := "rangesApart", fn := fun _ => fun
  | [d] => { results := [.lit (.bool false)], args := [d] }
  | _ => none }
def RangesApartWrongFalsely : Prop := rangesApartRow.holds Try.pinned (OpenSpec.ofChange rangesApartWrong)

/-- 'kymographlaw08.RangesDrop': WHATEVER THE INPUT: true; the input reads as it did. -/
def rangesDropSpec : ChangeSpec := { name := "rangesDrop", fn := fun _ => fun
  | [d1, d2, d3] => { results := [.lit (.bool true)], args := [d1, d2, d3] }
  | _ => none }
def rangesDropRow : OpenClaim := { program := "ytcpkpofmapjgdaa", sum := "1679891849f1fc796da6d2b2b9bbd504c4b4f426462d5492686fd131d2723485", func := "kymograph/kymographlaw08.RangesDrop", spec := "rangesDrop", inPlace := ["slices.overlaps[kymograph/api.Range]"], unfollowed := true, recurses := true, apart := false }
def RangesDropSaid : Prop := rangesDropRow.holds Try.pinned (OpenSpec.ofChange rangesDropSpec)

/-- ITS FALSE NEIGHBOUR: 'it returns false'. Refute it at one input. -/
def rangesDropWrong : ChangeSpec := { name := "rangesDrop", fn := fun _ => fun
  | [d1, d2, d3] => { results := [.lit (.bool false)], args := [d1, d2, d3] }
  | _ => none }
def RangesDropWrongFalsely : Prop := rangesDropRow.holds Try.pinned (OpenSpec.ofChange rangesDropWrong)

/-- 'kymographlaw08.RangesCount': WHATEVER THE INPUT: true; the input reads as it did. -/
def rangesCountSpec : ChangeSpec := { name := "rangesCount", fn := fun _ => fun
  | [d] => { results := [.lit (.bool true)], args := [d] }
  | _ => none }
def rangesCountRow : OpenClaim := { program := "ytcpkpofmapjgdaa", sum := "1679891849f1fc796da6d2b2b9bbd504c4b4f426462d5492686fd131d2723485", func := "kymograph/kymographlaw08.RangesCount", spec := "rangesCount", inPlace := ["slices.overlaps[kymograph/api.Range]"], unfollowed := true, recurses := true, apart := false }
def RangesCountSaid : Prop := rangesCountRow.holds Try.pinned (OpenSpec.ofChange rangesCountSpec)

/-- ITS FALSE NEIGHBOUR: 'it returns false'. Refute it at one input. -/
def rangesCountWrong : ChangeSpec := { name := "rangesCount", fn := fun _ => fun
  | [d] => { results := [.lit (.bool false)], args := [d] }
  | _ => none }
def RangesCountWrongFalsely : Prop := rangesCountRow.holds Try.pinned (OpenSpec.ofChange rangesCountWrong)

/-- 'kymographlaw08.RangesTop': WHATEVER THE INPUT: true; the input reads as it did. -/
def rangesTopSpec : ChangeSpec := { name := "rangesTop", fn := fun _ => fun
  | [d1, d2] => { results := [.lit (.bool true)], args := [d1, d2] }
  | _ => none }
def rangesTopRow : OpenClaim := { program := "ytcpkpofmapjgdaa", sum := "1679891849f1fc796da6d2b2b9bbd504c4b4f426462d5492686fd131d2723485", func := "kymograph/kymographlaw08.RangesTop", spec := "rangesTop", inPlace := ["slices.overlaps[kymograph/api.Range]"], unfollowed := true, recurses := true, apart := false }
def RangesTopSaid : Prop := rangesTopRow.holds Try.pinned (OpenSpec.ofChange rangesTopSpec)

/-- ITS FALSE NEIGHBOUR: 'it returns false'. Refute it at one input. -/
def rangesTopWrong : ChangeSpec := { name := "rangesTop", fn := fun _ => fun
  | [d1, d2] => { results := [.lit (.bool false)], args := [d1, d2] }
  | _ => none }
def RangesTopWrongFalsely : Prop := rangesTopRow.holds Try.pinned (OpenSpec.ofChange rangesTopWrong)

/- THE SECOND FORM. 'bulk': how many values and letters a reading holds, each counted each time it is reached (what is shared counts as often as it is met; a slice's spare places count too). A statement '..UptoSaid' is the law's where the arguments, and the package variables that the reading takes, are together of bulk at most 1048576: NARROWER than '..Said'. Prove '..Said' where nothing that the law and all that it calls make is longer than what came in: it says more and counts as full. Else prove '..UptoSaid'. A law counts once. -/
mutual
def uptoBulk {H : Type} : DataW H → Nat
  | .lit (.string bytes) => bytes.length + 1
  | .lit _ => 1
  | .nil => 1
  | .ptr d => uptoBulk d + 1
  | .slice elems spare => uptoBulkAll elems + uptoBulkAll spare + 1
  | .agg parts => uptoBulkAll parts + 1
  | .iface _ d => uptoBulk d + 1
  | .map entries => uptoBulkEntries entries + 1
  | .held _ => 1
def uptoBulkAll {H : Type} : List (DataW H) → Nat
  | [] => 0
  | d :: r => uptoBulk d + uptoBulkAll r
def uptoBulkEntries {H : Type} : List (Lit × DataW H) → Nat
  | [] => 0
  | x :: r => uptoBulkEntry x + uptoBulkEntries r
def uptoBulkEntry {H : Type} : Lit × DataW H → Nat
  | (.string bytes, d) => bytes.length + uptoBulk d + 1
  | (_, d) => uptoBulk d + 1
 end
def uptoSmall : (H : Type) → List (DataW H) → Bool := fun _ ds => decide (uptoBulkAll ds ≤ 1048576)
def OpenSpec.upto (s : _root_.Go.ChangeSpec) : _root_.Go.OpenSpec := { _root_.Go.OpenSpec.ofChange s with cond := some uptoSmall }

/-- 'kymographlaw08.RangesDo', WHERE WHAT IT READS IS OF BULK AT MOST 1048576: true; the input reads as it did. -/
def rangesDoUptoRow : OpenClaim := { program := "ytcpkpofmapjgdaa", sum := "1679891849f1fc796da6d2b2b9bbd504c4b4f426462d5492686fd131d2723485", func := "kymograph/kymographlaw08.RangesDo", spec := "rangesDo", inPlace := ["slices.overlaps[kymograph/api.Range]"], unfollowed := true, recurses := true, apart := false, narrowed := true }
def RangesDoUptoSaid : Prop := rangesDoUptoRow.holds Try.pinned (OpenSpec.upto rangesDoSpec)

/-- 'kymographlaw08.RangesOrder', WHERE WHAT IT READS IS OF BULK AT MOST 1048576: true; the input reads as it did. -/
def rangesOrderUptoRow : OpenClaim := { program := "ytcpkpofmapjgdaa", sum := "1679891849f1fc796da6d2b2b9bbd504c4b4f426462d5492686fd131d2723485", func := "kymograph/kymographlaw08.RangesOrder", spec := "rangesOrder", inPlace := ["slices.overlaps[kymograph/api.Range]"], unfollowed := true, recurses := true, apart := false, narrowed := true }
def RangesOrderUptoSaid : Prop := rangesOrderUptoRow.holds Try.pinned (OpenSpec.upto rangesOrderSpec)

/-- 'kymographlaw08.RangesHold', WHERE WHAT IT READS IS OF BULK AT MOST 1048576: true; the input reads as it did. -/
def rangesHoldUptoRow : OpenClaim := { program := "ytcpkpofmapjgdaa", sum := "1679891849f1fc796da6d2b2b9bbd504c4b4f426462d5492686fd131d2723485", func := "kymograph/kymographlaw08.RangesHold", spec := "rangesHold", inPlace := ["slices.overlaps[kymograph/api.Range]"], unfollowed := true, recurses := true, apart := false, narrowed := true }
def RangesHoldUptoSaid : Prop := rangesHoldUptoRow.holds Try.pinned (OpenSpec.upto rangesHoldSpec)

/-- 'kymographlaw08.RangesApart', WHERE WHAT IT READS IS OF BULK AT MOST 1048576: true; the input reads as it did. -/
def rangesApartUptoRow : OpenClaim := { program := "ytcpkpofmapjgdaa", sum := "1679891849f1fc796da6d2b2b9bbd504c4b4f426462d5492686fd131d2723485", func := "kymograph/kymographlaw08.RangesApart", spec := "rangesApart", inPlace := ["slices.overlaps[kymograph/api.Range]"], unfollowed := true, recurses := true, apart := false, narrowed := true }
def RangesApartUptoSaid : Prop := rangesApartUptoRow.holds Try.pinned (OpenSpec.upto rangesApartSpec)

/-- 'kymographlaw08.RangesDrop', WHERE WHAT IT READS IS OF BULK AT MOST 1048576: true; the input reads as it did. -/
def rangesDropUptoRow : OpenClaim := { program := "ytcpkpofmapjgdaa", sum := "1679891849f1fc796da6d2b2b9bbd504c4b4f426462d5492686fd131d2723485", func := "kymograph/kymographlaw08.RangesDrop", spec := "rangesDrop", inPlace := ["slices.overlaps[kymograph/api.Range]"], unfollowed := true, recurses := true, apart := false, narrowed := true }
def RangesDropUptoSaid : Prop := rangesDropUptoRow.holds Try.pinned (OpenSpec.upto rangesDropSpec)

/-- 'kymographlaw08.RangesCount', WHERE WHAT IT READS IS OF BULK AT MOST 1048576: true; the input reads as it did. -/
def rangesCountUptoRow : OpenClaim := { program := "ytcpkpofmapjgdaa", sum := "1679891849f1fc796da6d2b2b9bbd504c4b4f426462d5492686fd131d2723485", func := "kymograph/kymographlaw08.RangesCount", spec := "rangesCount", inPlace := ["slices.overlaps[kymograph/api.Range]"], unfollowed := true, recurses := true, apart := false, narrowed := true }
def RangesCountUptoSaid : Prop := rangesCountUptoRow.holds Try.pinned (OpenSpec.upto rangesCountSpec)

/-- 'kymographlaw08.RangesTop', WHERE WHAT IT READS IS OF BULK AT MOST 1048576: true; the input reads as it did. -/
def rangesTopUptoRow : OpenClaim := { program := "ytcpkpofmapjgdaa", sum := "1679891849f1fc796da6d2b2b9bbd504c4b4f426462d5492686fd131d2723485", func := "kymograph/kymographlaw08.RangesTop", spec := "rangesTop", inPlace := ["slices.overlaps[kymograph/api.Range]"], unfollowed := true, recurses := true, apart := false, narrowed := true }
def RangesTopUptoSaid : Prop := rangesTopUptoRow.holds Try.pinned (OpenSpec.upto rangesTopSpec)

end Rows
end Go.Proofs.Ytcpkpofmapjgdaa
