/- space: the reference's numbers and data, at any kind. Printed by tools/mkTe.py. -/
import Derived.Test.YtmnmpmiocgfalaaTc
namespace Go.Proofs.Ytmnmpmiocgfalaa
open Go.ChangeShapes Go.WideShapes Go.RowKit
set_option linter.unusedVariables false
set_option linter.unusedSimpArgs false

def numsF (k : Nat) : Int :=
  if k = 5 ∨ k = 8 ∨ k = 17 ∨ k = 21 ∨ k = 24 ∨ k = 28 then 2 else if k = 1 ∨ k = 7 ∨ k = 26 ∨ k = 27 ∨ k = 30 then 0 else if k = 0 ∨ k = 2 ∨ k = 6 ∨ k = 16 ∨ k = 18 ∨ k = 19 ∨ k = 20 ∨ k = 22 ∨ k = 23 ∨ k = 25 ∨ k = 29 then 1 else if k = 3 ∨ k = 4 then 3 else -1
def dataF (k : Nat) : Bool := decide (k = 6 ∨ k = 7 ∨ k = 8 ∨ k = 24 ∨ k = 26 ∨ k = 27 ∨ k = 28 ∨ k = 29)

set_option maxRecDepth 100000 in
theorem numbers_other (k : Nat) (w : World) (h : ¬ (k = 0 ∨ k = 1 ∨ k = 2 ∨ k = 3 ∨ k = 4 ∨ k = 5 ∨ k = 6 ∨ k = 7 ∨ k = 8 ∨ k = 16 ∨ k = 17 ∨ k = 18 ∨ k = 19 ∨ k = 20 ∨ k = 21 ∨ k = 22 ∨ k = 23 ∨ k = 24 ∨ k = 25 ∨ k = 26 ∨ k = 27 ∨ k = 28 ∨ k = 29 ∨ k = 30)) : Calls Try.prog 46 #[.int .u64 (k : Int)] w fun e w' => e = .returned (.int .i64 (-1)) ∧ w = w' := by
  have e0 : ((k : Int) == 0) = false := by rw [beq_eq_false_iff_ne]; omega
  have e1 : ((k : Int) == 1) = false := by rw [beq_eq_false_iff_ne]; omega
  have e2 : ((k : Int) == 2) = false := by rw [beq_eq_false_iff_ne]; omega
  have e3 : ((k : Int) == 3) = false := by rw [beq_eq_false_iff_ne]; omega
  have e4 : ((k : Int) == 4) = false := by rw [beq_eq_false_iff_ne]; omega
  have e5 : ((k : Int) == 5) = false := by rw [beq_eq_false_iff_ne]; omega
  have e6 : ((k : Int) == 6) = false := by rw [beq_eq_false_iff_ne]; omega
  have e7 : ((k : Int) == 7) = false := by rw [beq_eq_false_iff_ne]; omega
  have e8 : ((k : Int) == 8) = false := by rw [beq_eq_false_iff_ne]; omega
  have e16 : ((k : Int) == 16) = false := by rw [beq_eq_false_iff_ne]; omega
  have e17 : ((k : Int) == 17) = false := by rw [beq_eq_false_iff_ne]; omega
  have e18 : ((k : Int) == 18) = false := by rw [beq_eq_false_iff_ne]; omega
  have e19 : ((k : Int) == 19) = false := by rw [beq_eq_false_iff_ne]; omega
  have e20 : ((k : Int) == 20) = false := by rw [beq_eq_false_iff_ne]; omega
  have e21 : ((k : Int) == 21) = false := by rw [beq_eq_false_iff_ne]; omega
  have e22 : ((k : Int) == 22) = false := by rw [beq_eq_false_iff_ne]; omega
  have e23 : ((k : Int) == 23) = false := by rw [beq_eq_false_iff_ne]; omega
  have e24 : ((k : Int) == 24) = false := by rw [beq_eq_false_iff_ne]; omega
  have e25 : ((k : Int) == 25) = false := by rw [beq_eq_false_iff_ne]; omega
  have e26 : ((k : Int) == 26) = false := by rw [beq_eq_false_iff_ne]; omega
  have e27 : ((k : Int) == 27) = false := by rw [beq_eq_false_iff_ne]; omega
  have e28 : ((k : Int) == 28) = false := by rw [beq_eq_false_iff_ne]; omega
  have e29 : ((k : Int) == 29) = false := by rw [beq_eq_false_iff_ne]; omega
  have e30 : ((k : Int) == 30) = false := by rw [beq_eq_false_iff_ne]; omega
  clear h
  go_enter Try.func46, Try.ntmps46
  go_wp2_with fail
  go_ret
  exact ⟨rfl, rfl⟩
set_option maxRecDepth 100000 in
theorem data_other (k : Nat) (w : World) (h : ¬ (k = 6 ∨ k = 7 ∨ k = 8 ∨ k = 24 ∨ k = 26 ∨ k = 27 ∨ k = 28 ∨ k = 29)) : Calls Try.prog 47 #[.int .u64 (k : Int)] w fun e w' => e = .returned (.bool false) ∧ w = w' := by
  have e6 : ((k : Int) == 6) = false := by rw [beq_eq_false_iff_ne]; omega
  have e7 : ((k : Int) == 7) = false := by rw [beq_eq_false_iff_ne]; omega
  have e8 : ((k : Int) == 8) = false := by rw [beq_eq_false_iff_ne]; omega
  have e24 : ((k : Int) == 24) = false := by rw [beq_eq_false_iff_ne]; omega
  have e26 : ((k : Int) == 26) = false := by rw [beq_eq_false_iff_ne]; omega
  have e27 : ((k : Int) == 27) = false := by rw [beq_eq_false_iff_ne]; omega
  have e28 : ((k : Int) == 28) = false := by rw [beq_eq_false_iff_ne]; omega
  have e29 : ((k : Int) == 29) = false := by rw [beq_eq_false_iff_ne]; omega
  clear h
  go_enter Try.func47, Try.ntmps47
  go_wp2_with fail
  go_ret
  exact ⟨rfl, rfl⟩
theorem numbers_any (k : Nat) (w : World) : Calls Try.prog 46 #[.int .u64 (k : Int)] w fun e w' => e = .returned (.int .i64 (numsF k)) ∧ w = w' := by
  by_cases h : k = 0 ∨ k = 1 ∨ k = 2 ∨ k = 3 ∨ k = 4 ∨ k = 5 ∨ k = 6 ∨ k = 7 ∨ k = 8 ∨ k = 16 ∨ k = 17 ∨ k = 18 ∨ k = 19 ∨ k = 20 ∨ k = 21 ∨ k = 22 ∨ k = 23 ∨ k = 24 ∨ k = 25 ∨ k = 26 ∨ k = 27 ∨ k = 28 ∨ k = 29 ∨ k = 30
  · rcases h with rfl | rfl | rfl | rfl | rfl | rfl | rfl | rfl | rfl | rfl | rfl | rfl | rfl | rfl | rfl | rfl | rfl | rfl | rfl | rfl | rfl | rfl | rfl | rfl
    · exact numbers_0 w
    · exact numbers_1 w
    · exact numbers_2 w
    · exact numbers_3 w
    · exact numbers_4 w
    · exact numbers_5 w
    · exact numbers_6 w
    · exact numbers_7 w
    · exact numbers_8 w
    · exact numbers_16 w
    · exact numbers_17 w
    · exact numbers_18 w
    · exact numbers_19 w
    · exact numbers_20 w
    · exact numbers_21 w
    · exact numbers_22 w
    · exact numbers_23 w
    · exact numbers_24 w
    · exact numbers_25 w
    · exact numbers_26 w
    · exact numbers_27 w
    · exact numbers_28 w
    · exact numbers_29 w
    · exact numbers_30 w
  · have e : numsF k = -1 := by unfold numsF; simp only [not_or] at h; simp [h]
    rw [e]
    exact numbers_other k w h
theorem data_any (k : Nat) (w : World) : Calls Try.prog 47 #[.int .u64 (k : Int)] w fun e w' => e = .returned (.bool (dataF k)) ∧ w = w' := by
  by_cases h : k = 6 ∨ k = 7 ∨ k = 8 ∨ k = 24 ∨ k = 26 ∨ k = 27 ∨ k = 28 ∨ k = 29
  · rcases h with rfl | rfl | rfl | rfl | rfl | rfl | rfl | rfl
    · exact data_6 w
    · exact data_7 w
    · exact data_8 w
    · exact data_24 w
    · exact data_26 w
    · exact data_27 w
    · exact data_28 w
    · exact data_29 w
  · have e : dataF k = false := by unfold dataF; simp [h]
    rw [e]
    exact data_other k w h

end Go.Proofs.Ytmnmpmiocgfalaa
