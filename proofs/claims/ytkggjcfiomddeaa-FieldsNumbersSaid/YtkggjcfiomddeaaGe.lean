/- fields: the walk of FieldsNumbers. -/
import Derived.Test.YtkggjcfiomddeaaGd
import Derived.OpenShut
namespace Go.Proofs.Ytkggjcfiomddeaa
open Go.ChangeShapes Go.WideShapes Go.RowKit
set_option linter.unusedVariables false
set_option linter.unusedSimpArgs false

set_option maxRecDepth 100000 in
set_option maxHeartbeats 4000000 in
theorem numbers_walk (a0 : Int) (a1 : Int) (a2 : ByteArray) (w0 : (Lit.int .u64 a0).wf = true) (w1 : (Lit.int .u8 a1).wf = true) (w2 : a2.size ≤ maxLen) (w : World) :
    Calls Try.prog 3 #[.int .u64 a0, .int .u8 a1, .string a2] w fun e w' => e = .returned (.bool true) ∧ Below w.heap.size w w' := by
  have hb0 := bounds_u64 w0
  have hb1 := bounds_u8 w1
  unfold maxLen at w2
  obtain ⟨n, rfl⟩ := Int.eq_ofNat_of_zero_le hb0.1
  obtain ⟨m, rfl⟩ := Int.eq_ofNat_of_zero_le hb1.1
  have HAW := Lib.hid (fun w => awake_any w)
  obtain ⟨K, hK⟩ : ∃ K, m % 6 + 3 = K := ⟨_, rfl⟩
  have hKI : (m : Int) % 6 + 3 = (K : Int) := by omega
  by_cases hl : a2.size ≤ 1024
  case neg =>
    have hd : decide ((1024 : Int) < (a2.size : Int)) = true := by rw [decide_eq_true_iff]; omega
    clear hK hKI w0 w1
    go_enter Try.func3, Try.ntmps3
    go_wp2_with fail
    refine (HAW.out _).mono ?_
    rintro e x0 ⟨rfl, b0⟩
    have B0 := Lib.hid b0
    clear b0
    go_wp2_with fail
    go_ret
    exact ⟨rfl, B0.out⟩
  case pos =>
    have hd : decide ((1024 : Int) < (a2.size : Int)) = false := by rw [decide_eq_false_iff_not]; omega
    have hT := fun w => TakeNumber_any a2 K w (by omega) (by omega)
    have hR := fun w => RTake_any a2 K w (by omega) (by omega)
    rw [rTake_eq _ _ (by omega)] at hR
    have hN : ∀ w, Calls Try.prog 12 #[.int .u64 (n : Int), .int .i64 (K : Int), .int .u8 0] w fun e w' => e = .returned (.string (txt (numberF n K 0))) ∧ Below w.heap.size w w' := fun w => Number_any n K 0 w (by omega) (by omega) (by omega)
    have hRN : ∀ w, Calls Try.prog 13 #[.int .u64 (n : Int), .int .i64 (K : Int), .int .u8 0] w fun e w' => e = .returned (.string (txt (numberF n K 0))) ∧ Below w.heap.size w w' := fun w => RNumber_any n K 0 w (by omega) (by omega) (by omega) (Nat.zero_mod _)
    generalize takeF (byt a2) K = q at *
    obtain ⟨v, rl, is⟩ := q
    simp only at hT hR
    generalize txt rl = rs at *
    generalize txt (numberF n K 0) = ns at *
    have HT := Lib.hid hT
    have HR := Lib.hid hR
    have HN := Lib.hid hN
    have HRN := Lib.hid hRN
    clear hT hR hN hRN hK w0 w1
    go_enter Try.func3, Try.ntmps3
    go_wp2_with fail
    refine (HAW.out _).mono ?_
    rintro e x0 ⟨rfl, b0⟩
    have B0 := Lib.hid b0
    clear b0
    go_wp2_with fail
    refine (HT.out _).mono ?_
    rintro e x1 ⟨rfl, b1⟩
    have B1 := Lib.hid (B0.out.trans (b1.mono B0.out.size))
    clear b1
    go_wp2_with fail
    refine (HR.out _).mono ?_
    rintro e x2 ⟨rfl, b2⟩
    have B2 := Lib.hid (B1.out.trans (b2.mono B1.out.size))
    clear b2
    cases is
    all_goals
      go_wp2_with fail
      refine (HN.out _).mono ?_
      rintro e x3 ⟨rfl, b3⟩
      have B3 := Lib.hid (B2.out.trans (b3.mono B2.out.size))
      clear b3
      go_wp2_with fail
      refine (HRN.out _).mono ?_
      rintro e x4 ⟨rfl, b4⟩
      have B4 := Lib.hid (B3.out.trans (b4.mono B3.out.size))
      clear b4
      go_wp2_with fail
      refine (Fixed_any _).mono ?_
      rintro e x5 ⟨rfl, hF, b5⟩
      have B5 := Lib.hid (B4.out.trans (b5.mono B4.out.size))
      have HOW := Lib.hid (own_any fixedL (some ⟨x4.heap.size, 0, none⟩) 12 x5 (FV.of_blk hF) (by decide))
      clear b5 hF
      go_wp2_with fail
      refine HOW.out.mono ?_
      rintro e x6 ⟨v6, rfl, o6, b6⟩
      have B6 := Lib.hid (B5.out.trans (b6.mono B5.out.size))
      have O6 := Lib.hid o6
      clear b6 o6 HOW
      go_wp2_with fail
      refine (RFixed_any _).mono ?_
      rintro e x7 ⟨v7, rfl, o7, b7⟩
      have B7 := Lib.hid (B6.out.trans (b7.mono B6.out.size))
      have o6 := O6.out.below b7
      obtain ⟨p6, c6, rfl, _⟩ := own_shape o6
      obtain ⟨p7, c7, rfl, _⟩ := own_shape o7
      have HSM := Lib.hid (RSame_any fixedL fixedL p6 p7 c6 c7 x7 o6.fv o7.fv (by decide) (by decide))
      rw [show sameF fixedL fixedL = true from decide_eq_true rfl] at HSM
      clear b7 o6 o7 O6
      go_wp2_with fail
      refine HSM.out.mono ?_
      rintro e x8 ⟨rfl, b8⟩
      have B8 := Lib.hid (B7.out.trans (b8.mono B7.out.size))
      clear b8
      go_wp2_with fail
      go_ret
      exact ⟨rfl, B8.out⟩

end Go.Proofs.Ytkggjcfiomddeaa
