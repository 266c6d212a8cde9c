/- space: a region's list of operations, cut: what stands behind its first part. -/
import Derived.Test.YtmnmpmiocgfalaaTf
namespace Go.Proofs.Ytmnmpmiocgfalaa
open Go.ChangeShapes Go.WideShapes Go.RowKit
set_option linter.unusedVariables false
set_option linter.unusedSimpArgs false

def putS (T : List Value) (us : Nat → Value) : List Nat → List Value
  | [] => T
  | d :: ds => (putS T us ds).set d (us d)
def nthV : List Value → Nat → Value
  | [], _ => undef
  | v :: _, 0 => v
  | _ :: l, n + 1 => nthV l n
theorem nthV_zero (v : Value) (l : List Value) : nthV (v :: l) 0 = v := rfl
theorem nthV_succ (v : Value) (l : List Value) (n : Nat) : nthV (v :: l) (n + 1) = nthV l n := rfl
theorem putS_nil (T : List Value) (us : Nat → Value) : putS T us [] = T := rfl
theorem putS_cons (T : List Value) (us : Nat → Value) (d : Nat) (ds : List Nat) : putS T us (d :: ds) = (putS T us ds).set d (us d) := rfl
/-- Where the walk stands at a region's list: its first k operations on their own; behind them slot m holds the Boolean x, the slots of ds hold something, the world is as it was. -/
theorem wpList_cut {P : Program} {ops : Array Oper} {Q : Exit → Act → World → Prop} {l : List Oper} {T : List Value} {a : Act} {r} {w : World} (k m : Nat) (ds : List Nat) (x : Bool) (ha : a = ⟨T.toArray, r⟩)
    (h2 : ∀ us : Nat → Value, wpList P ops Q (l.drop k) ⟨((putS T us ds).set m (.bool x)).toArray, r⟩ w)
    (h1 : wpList P ops (MidQ Q (fun a' w' => ∃ us, a' = ⟨((putS T us ds).set m (.bool x)).toArray, r⟩ ∧ w' = w)) (l.take k) a w) :
    wpList P ops Q l a w := by
  rw [← List.take_append_drop k l]
  exact wpList_app _ (fun a' w' ⟨us, h, hw⟩ => by subst h; subst hw; exact h2 us) _ _ _ h1
theorem MidQ.meet {Q : Exit → Act → World → Prop} {T T' : List Value} {r} {w : World} {m : Nat} {ds : List Nat} {x : Bool} (z : Bool) (hz : nthV T' m = .bool z) (h : x = z) (e : T' = (putS T (nthV T') ds).set m (.bool z)) :
    MidQ Q (fun a' w' => ∃ us, a' = ⟨((putS T us ds).set m (.bool x)).toArray, r⟩ ∧ w' = w) .normal ⟨T'.toArray, r⟩ w :=
  ⟨nthV T', by rw [h, ← e], rfl⟩

end Go.Proofs.Ytmnmpmiocgfalaa
