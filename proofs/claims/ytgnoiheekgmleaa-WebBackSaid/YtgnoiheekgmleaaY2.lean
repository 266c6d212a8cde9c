/- Contracts of varint's exported functions Put, Wide, Size: what each answers, as plain Lean functions. -/
import Derived.Test.YtgnoiheekgmleaaY1
import Derived.Deep.DeepFit
import Derived.Deep.DeepMust
namespace Go.Proofs.Ytgnoiheekgmleaa
open Go.ChangeShapes Go.WideShapes Go.RowKit

/-- What Put answers. -/
def putF (n : Nat) : List UInt8 × Int := if n < 4611686018427387904 then (put (lst n) n, 0) else ([], 3)

/-- What Size answers. -/
def sizeF (n : Nat) : Nat := if n < 4611686018427387904 then 2 ^ lst n else 0

theorem Put_any (n : Nat) (w : World) :
    Calls Try.prog 57 #[.int .u64 (n : Int)] w fun e w' => e = .returned (.tuple #[.string (txt (putF n).1), .int .i64 (putF n).2]) ∧ Below w.heap.size w w' := by
  unfold putF
  by_cases h : n < 4611686018427387904
  · rw [if_pos h]
    exact (put_any n w h).mono fun e w' ⟨he, hw⟩ => ⟨he, hw ▸ (Below.refl _ _).alloc (Nat.le_refl _) _⟩
  · rw [if_neg h]
    exact (put_no n w h).mono fun e w' ⟨he, hw⟩ => ⟨he, hw ▸ Below.refl _ _⟩

theorem Size_any (n : Nat) (w : World) :
    Calls Try.prog 59 #[.int .u64 (n : Int)] w fun e w' => e = .returned (.int .i64 (sizeF n : Nat)) ∧ w = w' := by
  unfold sizeF
  by_cases h : n < 4611686018427387904
  · rw [if_pos h]; exact size_any n w h
  · rw [if_neg h]; exact size_no n w h

end Go.Proofs.Ytgnoiheekgmleaa
