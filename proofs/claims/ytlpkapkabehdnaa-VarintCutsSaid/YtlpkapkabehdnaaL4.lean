/- The law VarintCuts, walked. -/
import Derived.Test.YtlpkapkabehdnaaAw
import Derived.Test.YtlpkapkabehdnaaW7
import Derived.OpenShut
namespace Go.Proofs.Ytlpkapkabehdnaa
open Go.ChangeShapes Go.WideShapes Go.RowKit
set_option linter.unusedVariables false

set_option maxRecDepth 100000 in
set_option maxHeartbeats 1000000 in
theorem cuts_walk (a0 : Int) (a1 : Int) (a2 : ByteArray) (a3 : Int) (w0 : (Lit.int .u64 a0).wf = true) (w1 : (Lit.int .i64 a1).wf = true) (w2 : a2.size ≤ maxLen) (w3 : (Lit.int .i64 a3).wf = true) (w : World) :
    Calls Try.prog 4 #[.int .u64 a0, .int .i64 a1, .string a2, .int .i64 a3] w fun e w' => e = .returned (.bool true) ∧ Below w.heap.size w w' := by
  have hb := bounds_u64 w0
  have hb3 := bounds_i64 w3
  obtain ⟨n, rfl⟩ := Int.eq_ofNat_of_zero_le hb.1
  unfold maxLen at w2
  have hP := Cut_any n a1
  have hR := rCut_any n a1
  have hT := fun w => Tell_any a2 a3 w hb3.1
  have hU := fun w => rTell_any a2 a3 w hb3.1
  generalize txt (cutF n a1).1 = p at *
  generalize (cutF n a1).2 = pe at *
  generalize ((tellF (byt a2) a3).1 : Nat) = t at *
  generalize (tellF (byt a2) a3).2 = te at *
  have HP := Lib.hid hP
  have HR := Lib.hid hR
  have HT := Lib.hid hT
  have HU := Lib.hid hU
  clear hP hR hT hU hb w0 w1 hb3 w3
  by_cases hm : a2.size ≤ 1024
  · go_enter Try.func4, Try.ntmps4
    go_wp2_with fail
    refine (awake_any _).mono ?_
    rintro e x0 ⟨rfl, b0⟩
    have B0 := Lib.hid b0
    clear b0
    go_wp2_with fail
    refine (HP.out _).mono ?_
    rintro e x1 ⟨rfl, b1⟩
    have B1 := Lib.hid (B0.out.trans (b1.mono B0.out.size))
    clear b1 B0
    go_wp2_with fail
    refine (HR.out _).mono ?_
    rintro e x2 ⟨rfl, b2⟩
    have B2 := Lib.hid (B1.out.trans (b2.mono B1.out.size))
    clear b2 B1
    go_wp2_with fail
    refine (HT.out _).mono ?_
    rintro e x5 ⟨rfl, b5⟩
    have B5 := Lib.hid (B2.out.trans (b5.mono B2.out.size))
    clear b5 B2
    go_wp2_with fail
    refine (HU.out _).mono ?_
    rintro e x6 ⟨rfl, b6⟩
    have B6 := Lib.hid (B5.out.trans (b6.mono B5.out.size))
    clear b6 B5
    go_wp2_with fail
    go_ret
    exact ⟨rfl, B6.out⟩
  · go_enter Try.func4, Try.ntmps4
    go_wp2_with fail
    refine (awake_any _).mono ?_
    rintro e x0 ⟨rfl, b0⟩
    go_wp2_with fail
    go_ret
    exact ⟨rfl, b0⟩

end Go.Proofs.Ytlpkapkabehdnaa
