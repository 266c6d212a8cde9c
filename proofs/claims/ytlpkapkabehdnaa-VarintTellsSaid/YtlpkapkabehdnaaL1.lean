/- The law VarintTells, walked. -/
import Derived.Test.YtlpkapkabehdnaaAw
import Derived.OpenShut
namespace Go.Proofs.Ytlpkapkabehdnaa
open Go.ChangeShapes Go.WideShapes Go.RowKit
set_option linter.unusedVariables false

theorem size_putF (n : Nat) : sizeF n = (putF n).1.length := by
  unfold sizeF putF
  by_cases h : n < 4611686018427387904
  · rw [if_pos h, if_pos h, put_length]
  · rw [if_neg h, if_neg h]; rfl

set_option maxRecDepth 100000 in
set_option maxHeartbeats 1000000 in
theorem tells_walk (a0 : Int) (a1 : Int) (a2 : ByteArray) (w0 : (Lit.int .u64 a0).wf = true) (w1 : (Lit.int .i64 a1).wf = true) (w2 : a2.size ≤ maxLen) (w : World) :
    Calls Try.prog 3 #[.int .u64 a0, .int .i64 a1, .string a2] w fun e w' => e = .returned (.bool true) ∧ Below w.heap.size w w' := by
  have hb := bounds_u64 w0
  obtain ⟨n, rfl⟩ := Int.eq_ofNat_of_zero_le hb.1
  unfold maxLen at w2
  have hP := Put_any n
  have hR := rPut_any n
  have hW := Wide_any n a1
  have hV := rWide_any n a1
  have hT := Take_any a2
  have hU := rTake_any a2
  have hS := Size_any n
  have hs := size_putF n
  rw [← txt_size] at hs
  rw [hs] at hS
  clear hs
  generalize txt (putF n).1 = p at *
  generalize (putF n).2 = pe at *
  generalize txt (wideF n a1).1 = q at *
  generalize (wideF n a1).2 = qe at *
  generalize ((takeL (byt a2)).1 : Nat) = t at *
  generalize txt (takeL (byt a2)).2.1 = u at *
  generalize (takeL (byt a2)).2.2 = te at *
  have HP := Lib.hid hP
  have HR := Lib.hid hR
  have HW := Lib.hid hW
  have HV := Lib.hid hV
  have HT := Lib.hid hT
  have HU := Lib.hid hU
  have HS := Lib.hid hS
  clear hP hR hW hV hT hU hS hb w0 w1
  by_cases hm : a2.size ≤ 1024
  · go_enter Try.func3, Try.ntmps3
    go_wp2_with fail
    refine (awake_any _).mono ?_
    rintro e x0 ⟨rfl, b0⟩
    have B0 := Lib.hid b0
    clear b0
    go_wp2_with fail
    refine (HP.out _).mono ?_
    rintro e x1 ⟨rfl, b1⟩
    have B1 := Lib.hid (B0.out.trans (b1.mono B0.out.size))
    clear b1 B0
    go_wp2_with fail
    refine (HR.out _).mono ?_
    rintro e x2 ⟨rfl, b2⟩
    have B2 := Lib.hid (B1.out.trans (b2.mono B1.out.size))
    clear b2 B1
    go_wp2_with fail
    refine (HW.out _).mono ?_
    rintro e x3 ⟨rfl, b3⟩
    have B3 := Lib.hid (B2.out.trans (b3.mono B2.out.size))
    clear b3 B2
    go_wp2_with fail
    refine (HV.out _).mono ?_
    rintro e x4 ⟨rfl, b4⟩
    have B4 := Lib.hid (B3.out.trans (b4.mono B3.out.size))
    clear b4 B3
    go_wp2_with fail
    refine (HT.out _).mono ?_
    rintro e x5 ⟨rfl, b5⟩
    have B5 := Lib.hid (B4.out.trans (b5.mono B4.out.size))
    clear b5 B4
    go_wp2_with fail
    refine (HU.out _).mono ?_
    rintro e x6 ⟨rfl, b6⟩
    have B6 := Lib.hid (B5.out.trans (b6.mono B5.out.size))
    clear b6 B5
    go_wp2_with fail
    refine (HS.out _).mono ?_
    rintro e x7 ⟨rfl, rfl⟩
    go_wp2_with fail
    go_ret
    exact ⟨rfl, B6.out⟩
  · go_enter Try.func3, Try.ntmps3
    go_wp2_with fail
    refine (awake_any _).mono ?_
    rintro e x0 ⟨rfl, b0⟩
    go_wp2_with fail
    go_ret
    exact ⟨rfl, b0⟩

end Go.Proofs.Ytlpkapkabehdnaa
