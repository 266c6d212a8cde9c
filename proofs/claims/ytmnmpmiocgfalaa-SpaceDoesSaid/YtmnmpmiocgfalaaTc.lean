/- space: a region's list of operations, cut in its midst. -/
import Derived.Test.YtmnmpmiocgfalaaTb
import Derived.Orders
namespace Go.Proofs.Ytmnmpmiocgfalaa
open Go.ChangeShapes Go.WideShapes Go.RowKit
set_option linter.unusedVariables false
set_option linter.unusedSimpArgs false

/-- What is asked behind a first part: R at its end; the whole's own at any other exit. -/
def MidQ (Q : Exit → Act → World → Prop) (R : Act → World → Prop) : Exit → Act → World → Prop
  | .normal, a, w => R a w
  | e, a, w => Q e a w
theorem MidQ.lets {Q : Exit → Act → World → Prop} {R : Act → World → Prop} (h : LetsOut (MidQ Q R)) : LetsOut Q := let ⟨a, w, h⟩ := h; ⟨a, w, h⟩
theorem Oper.wp_mid {P : Program} {Q : Exit → Act → World → Prop} {R : Act → World → Prop} {o : Oper} {a : Act} {w : World} {K : Act → World → Prop}
    (hh : o.wp P a w K (MidQ Q R)) : o.wp P a w K Q := by
  unfold Oper.wp at *
  generalize (execOp a.eval o).run P w = r at *
  cases r with
  | ok n w' =>
    cases n <;> simp only [Oper.upon] at hh ⊢ <;>
      first
        | exact hh
        | exact Calls.mono hh (fun e w'' he => by cases e <;> first | exact he | exact MidQ.lets he)
  | halt x w' => cases x <;> simp only [Oper.upon] at hh ⊢ <;> exact hh
theorem wpList_app {P : Program} {ops : Array Oper} {Q : Exit → Act → World → Prop} (R : Act → World → Prop) {rest : List Oper} (h2 : ∀ a w, R a w → wpList P ops Q rest a w) :
    ∀ (l1 : List Oper) (a : Act) (w : World), wpList P ops (MidQ Q R) l1 a w → wpList P ops Q (l1 ++ rest) a w := by
  intro l1
  induction l1 with
  | nil => intro a w h1; exact h2 a w h1
  | cons o l1 ih =>
    intro a w h1
    rw [List.cons_append]
    unfold wpList at h1 ⊢
    split
    · rename_i hw
      rw [if_pos hw] at h1
      rcases h1 with h1 | ⟨h1, h3⟩
      · exact .inl (Oper.wp_mono (fun a w h => ih a w h) (Oper.wp_mid h1))
      · exact .inr ⟨h1, MidQ.lets h3⟩
    · rename_i hw
      rw [if_neg hw] at h1
      exact ih _ _ h1

end Go.Proofs.Ytmnmpmiocgfalaa
