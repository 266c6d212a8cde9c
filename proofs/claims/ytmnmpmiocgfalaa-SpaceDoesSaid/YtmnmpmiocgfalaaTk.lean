/- space: SpaceMust's walk, the reference's Asks put in. -/
import Derived.Test.YtmnmpmiocgfalaaTd
import Derived.Test.YtmnmpmiocgfalaaTi
namespace Go.Proofs.Ytmnmpmiocgfalaa
open Go.ChangeShapes Go.WideShapes Go.RowKit

theorem must_ok (p : Option Addr) (cap : Nat) (xs : List Act1) (w : World) (hX : ActsAt w p xs) (hl : xs.length ≤ maxLen) :
    Calls Try.prog 7 #[.slice p xs.length cap] w fun e w' => e = .returned (.bool true) ∧ Below w.heap.size w w' :=
  must_walk asks03 p cap xs w hX hl

end Go.Proofs.Ytmnmpmiocgfalaa
