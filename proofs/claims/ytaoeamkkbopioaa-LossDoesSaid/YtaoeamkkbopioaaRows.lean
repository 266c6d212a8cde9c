/-
  No cell of these rows narrows 'for every input' (looked for: loops, veiled, ifaces, maps, wideKeys, modest, calm, conditions, laid).
  DERIVED. THE GIVEN ROWS OF THIS SEAT. 6 by the template 'for every input the law returns true; each argument reads behind the call as it read before'; 0 by the template 'total and deterministic' (their statements: YtaoeamkkbopioaaTotals.lean).
  GIVEN WITH THE SEED: the statements are not yours to turn. If you find one false, say at which input.
  Laid BY PROGRAM, IN A SANDBOX (cutbox-rows.mjs): the forced cells as the released guide's own fill.sh prints them over the translation 9570fb75294eb4bf… (all of the seat's roots in one cut). By AI agents, Wed Nov 11 2026. No macro, syntax, notation, axiom, sorry.
-/
import Derived.Test.YtaoeamkkbopioaaChecked
import GoSem.Claim
import GoSem.ClaimJoined
import GoSem.ClaimMapViews
import Derived.JoinedTies
import Derived.KernelRfl
namespace Go.Proofs.Ytaoeamkkbopioaa
/- THE CELL 'sum', in the pinned program and in every row, IS THE sha256 OF THE DUMP (.gsa) THAT YtaoeamkkbopioaaProg.lean LOADS. Nothing in Lean hashes anything: it is a label: what it is worth is what the hold of that sum in a sandbox is worth. -/
noncomputable def Try.pinned : Pinned := { name := "ytaoeamkkbopioaa", sum := "9570fb75294eb4bfe81fb8c6d8168740d61ced1596fd8f94cccca453ba134fd5", checked := Try.checked }
namespace Rows
def none {H : Type} : Left H := { results := [], args := [] }

/-- 'kymographlaw10.LossOnce': WHATEVER THE INPUT: true; the input reads as it did. -/
def lossOnceSpec : ChangeSpec := { name := "lossOnce", fn := fun _ => fun
  | [d] => { results := [.lit (.bool true)], args := [d] }
  | _ => none }
def lossOnceRow : OpenClaim := { program := "ytaoeamkkbopioaa", sum := "9570fb75294eb4bfe81fb8c6d8168740d61ced1596fd8f94cccca453ba134fd5", func := "kymograph/kymographlaw10.LossOnce", spec := "lossOnce", unfollowed := true, recurses := true, apart := false }
def LossOnceSaid : Prop := lossOnceRow.holds Try.pinned (OpenSpec.ofChange lossOnceSpec)

/-- ITS FALSE NEIGHBOUR: 'it returns false'. Refute it at one input. -/
def lossOnceWrong : ChangeSpec := { name := "lossOnce", fn := fun _ => fun
  | [d] => { results := [.lit (.bool false)], args := [d] }
  | _ => none }
def LossOnceWrongFalsely : Prop := lossOnceRow.holds Try.pinned (OpenSpec.ofChange lossOnceWrong)

/-- 'kymographlaw10.LossLate': WHATEVER THE INPUT: true; the input reads as it did. -/
def lossLateSpec : ChangeSpec := { name := "lossLate", fn := fun _ => fun
  | [d1, d2, d3] => { results := [.lit (.bool true)], args := [d1, d2, d3] }
  | _ => none }
def lossLateRow : OpenClaim := { program := "ytaoeamkkbopioaa", sum := "9570fb75294eb4bfe81fb8c6d8168740d61ced1596fd8f94cccca453ba134fd5", func := "kymograph/kymographlaw10.LossLate", spec := "lossLate", unfollowed := true, recurses := true, apart := false }
def LossLateSaid : Prop := lossLateRow.holds Try.pinned (OpenSpec.ofChange lossLateSpec)

/-- ITS FALSE NEIGHBOUR: 'it returns false'. Refute it at one input. -/
def lossLateWrong : ChangeSpec := { name := "lossLate", fn := fun _ => fun
  | [d1, d2, d3] => { results := [.lit (.bool false)], args := [d1, d2, d3] }
  | _ => none }
def LossLateWrongFalsely : Prop := lossLateRow.holds Try.pinned (OpenSpec.ofChange lossLateWrong)

/-- 'kymographlaw10.LossDue': WHATEVER THE INPUT: true; the input reads as it did. -/
def lossDueSpec : ChangeSpec := { name := "lossDue", fn := fun _ => fun
  | [d1, d2] => { results := [.lit (.bool true)], args := [d1, d2] }
  | _ => none }
def lossDueRow : OpenClaim := { program := "ytaoeamkkbopioaa", sum := "9570fb75294eb4bfe81fb8c6d8168740d61ced1596fd8f94cccca453ba134fd5", func := "kymograph/kymographlaw10.LossDue", spec := "lossDue", unfollowed := true, recurses := true, apart := false }
def LossDueSaid : Prop := lossDueRow.holds Try.pinned (OpenSpec.ofChange lossDueSpec)

/-- ITS FALSE NEIGHBOUR: 'it returns false'. Refute it at one input. -/
def lossDueWrong : ChangeSpec := { name := "lossDue", fn := fun _ => fun
  | [d1, d2] => { results := [.lit (.bool false)], args := [d1, d2] }
  | _ => none }
def LossDueWrongFalsely : Prop := lossDueRow.holds Try.pinned (OpenSpec.ofChange lossDueWrong)

/-- 'kymographlaw10.LossFlies': WHATEVER THE INPUT: true; the input reads as it did. -/
def lossFliesSpec : ChangeSpec := { name := "lossFlies", fn := fun _ => fun
  | [d] => { results := [.lit (.bool true)], args := [d] }
  | _ => none }
def lossFliesRow : OpenClaim := { program := "ytaoeamkkbopioaa", sum := "9570fb75294eb4bfe81fb8c6d8168740d61ced1596fd8f94cccca453ba134fd5", func := "kymograph/kymographlaw10.LossFlies", spec := "lossFlies", unfollowed := true, recurses := true, apart := false }
def LossFliesSaid : Prop := lossFliesRow.holds Try.pinned (OpenSpec.ofChange lossFliesSpec)

/-- ITS FALSE NEIGHBOUR: 'it returns false'. Refute it at one input. -/
def lossFliesWrong : ChangeSpec := { name := "lossFlies", fn := fun _ => fun
  | [d] => { results := [.lit (.bool false)], args := [d] }
  | _ => none }
def LossFliesWrongFalsely : Prop := lossFliesRow.holds Try.pinned (OpenSpec.ofChange lossFliesWrong)

/-- 'kymographlaw10.LossDoes': WHATEVER THE INPUT: true; the input reads as it did. -/
def lossDoesSpec : ChangeSpec := { name := "lossDoes", fn := fun _ => fun
  | [d] => { results := [.lit (.bool true)], args := [d] }
  | _ => none }
def lossDoesRow : OpenClaim := { program := "ytaoeamkkbopioaa", sum := "9570fb75294eb4bfe81fb8c6d8168740d61ced1596fd8f94cccca453ba134fd5", func := "kymograph/kymographlaw10.LossDoes", spec := "lossDoes", unfollowed := true, recurses := true, apart := false }
def LossDoesSaid : Prop := lossDoesRow.holds Try.pinned (OpenSpec.ofChange lossDoesSpec)

/-- ITS FALSE NEIGHBOUR: 'it returns false'. Refute it at one input. -/
def lossDoesWrong : ChangeSpec := { name := "lossDoes", fn := fun _ => fun
  | [d] => { results := [.lit (.bool false)], args := [d] }
  | _ => none }
def LossDoesWrongFalsely : Prop := lossDoesRow.holds Try.pinned (OpenSpec.ofChange lossDoesWrong)

/-- 'kymographlaw10.LossBest': WHATEVER THE INPUT: true; the input reads as it did. -/
def lossBestSpec : ChangeSpec := { name := "lossBest", fn := fun _ => fun
  | [d] => { results := [.lit (.bool true)], args := [d] }
  | _ => none }
def lossBestRow : OpenClaim := { program := "ytaoeamkkbopioaa", sum := "9570fb75294eb4bfe81fb8c6d8168740d61ced1596fd8f94cccca453ba134fd5", func := "kymograph/kymographlaw10.LossBest", spec := "lossBest", unfollowed := true, recurses := true, apart := false }
def LossBestSaid : Prop := lossBestRow.holds Try.pinned (OpenSpec.ofChange lossBestSpec)

/-- ITS FALSE NEIGHBOUR: 'it returns false'. Refute it at one input. -/
def lossBestWrong : ChangeSpec := { name := "lossBest", fn := fun _ => fun
  | [d] => { results := [.lit (.bool false)], args := [d] }
  | _ => none }
def LossBestWrongFalsely : Prop := lossBestRow.holds Try.pinned (OpenSpec.ofChange lossBestWrong)

/- THE SECOND FORM. 'bulk': how many values and letters a reading holds, each counted each time it is reached (what is shared counts as often as it is met; a slice's spare places count too). A statement '..UptoSaid' is the law's where the arguments, and the package variables that the reading takes, are together of bulk at most 1048576: NARROWER than '..Said'. Prove '..Said' where nothing that the law and all that it calls make is longer than what came in: it says more and counts as full. Else prove '..UptoSaid'. A law counts once. -/
mutual
def uptoBulk {H : Type} : DataW H → Nat
  | .lit (.string bytes) => bytes.length + 1
  | .lit _ => 1
  | .nil => 1
  | .ptr d => uptoBulk d + 1
  | .slice elems spare => uptoBulkAll elems + uptoBulkAll spare + 1
  | .agg parts => uptoBulkAll parts + 1
  | .iface _ d => uptoBulk d + 1
  | .map entries => uptoBulkEntries entries + 1
  | .held _ => 1
def uptoBulkAll {H : Type} : List (DataW H) → Nat
  | [] => 0
  | d :: r => uptoBulk d + uptoBulkAll r
def uptoBulkEntries {H : Type} : List (Lit × DataW H) → Nat
  | [] => 0
  | x :: r => uptoBulkEntry x + uptoBulkEntries r
def uptoBulkEntry {H : Type} : Lit × DataW H → Nat
  | (.string bytes, d) => bytes.length + uptoBulk d + 1
  | (_, d) => uptoBulk d + 1
 end
def uptoSmall : (H : Type) → List (DataW H) → Bool := fun _ ds => decide (uptoBulkAll ds ≤ 1048576)
def OpenSpec.upto (s : _root_.Go.ChangeSpec) : _root_.Go.OpenSpec := { _root_.Go.OpenSpec.ofChange s with cond := some uptoSmall }

/-- 'kymographlaw10.LossOnce', WHERE WHAT IT READS IS OF BULK AT MOST 1048576: true; the input reads as it did. -/
def lossOnceUptoRow : OpenClaim := { program := "ytaoeamkkbopioaa", sum := "9570fb75294eb4bfe81fb8c6d8168740d61ced1596fd8f94cccca453ba134fd5", func := "kymograph/kymographlaw10.LossOnce", spec := "lossOnce", unfollowed := true, recurses := true, apart := false, narrowed := true }
def LossOnceUptoSaid : Prop := lossOnceUptoRow.holds Try.pinned (OpenSpec.upto lossOnceSpec)

/-- 'kymographlaw10.LossLate', WHERE WHAT IT READS IS OF BULK AT MOST 1048576: true; the input reads as it did. -/
def lossLateUptoRow : OpenClaim := { program := "ytaoeamkkbopioaa", sum := "9570fb75294eb4bfe81fb8c6d8168740d61ced1596fd8f94cccca453ba134fd5", func := "kymograph/kymographlaw10.LossLate", spec := "lossLate", unfollowed := true, recurses := true, apart := false, narrowed := true }
def LossLateUptoSaid : Prop := lossLateUptoRow.holds Try.pinned (OpenSpec.upto lossLateSpec)

/-- 'kymographlaw10.LossDue', WHERE WHAT IT READS IS OF BULK AT MOST 1048576: true; the input reads as it did. -/
def lossDueUptoRow : OpenClaim := { program := "ytaoeamkkbopioaa", sum := "9570fb75294eb4bfe81fb8c6d8168740d61ced1596fd8f94cccca453ba134fd5", func := "kymograph/kymographlaw10.LossDue", spec := "lossDue", unfollowed := true, recurses := true, apart := false, narrowed := true }
def LossDueUptoSaid : Prop := lossDueUptoRow.holds Try.pinned (OpenSpec.upto lossDueSpec)

/-- 'kymographlaw10.LossFlies', WHERE WHAT IT READS IS OF BULK AT MOST 1048576: true; the input reads as it did. -/
def lossFliesUptoRow : OpenClaim := { program := "ytaoeamkkbopioaa", sum := "9570fb75294eb4bfe81fb8c6d8168740d61ced1596fd8f94cccca453ba134fd5", func := "kymograph/kymographlaw10.LossFlies", spec := "lossFlies", unfollowed := true, recurses := true, apart := false, narrowed := true }
def LossFliesUptoSaid : Prop := lossFliesUptoRow.holds Try.pinned (OpenSpec.upto lossFliesSpec)

/-- 'kymographlaw10.LossDoes', WHERE WHAT IT READS IS OF BULK AT MOST 1048576: true; the input reads as it did. -/
def lossDoesUptoRow : OpenClaim := { program := "ytaoeamkkbopioaa", sum := "9570fb75294eb4bfe81fb8c6d8168740d61ced1596fd8f94cccca453ba134fd5", func := "kymograph/kymographlaw10.LossDoes", spec := "lossDoes", unfollowed := true, recurses := true, apart := false, narrowed := true }
def LossDoesUptoSaid : Prop := lossDoesUptoRow.holds Try.pinned (OpenSpec.upto lossDoesSpec)

/-- 'kymographlaw10.LossBest', WHERE WHAT IT READS IS OF BULK AT MOST 1048576: true; the input reads as it did. -/
def lossBestUptoRow : OpenClaim := { program := "ytaoeamkkbopioaa", sum := "9570fb75294eb4bfe81fb8c6d8168740d61ced1596fd8f94cccca453ba134fd5", func := "kymograph/kymographlaw10.LossBest", spec := "lossBest", unfollowed := true, recurses := true, apart := false, narrowed := true }
def LossBestUptoSaid : Prop := lossBestUptoRow.holds Try.pinned (OpenSpec.upto lossBestSpec)

end Rows
end Go.Proofs.Ytaoeamkkbopioaa
