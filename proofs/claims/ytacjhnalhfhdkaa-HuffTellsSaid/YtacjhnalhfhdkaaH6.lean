/- The law HuffTells, walked. -/
import Derived.Test.YtacjhnalhfhdkaaHw
import Derived.Test.YtacjhnalhfhdkaaHk
import Derived.OpenShut
namespace Go.Proofs.Ytacjhnalhfhdkaa
open Go.ChangeShapes Go.WideShapes Go.RowKit
set_option linter.unusedVariables false

set_option maxRecDepth 100000 in
set_option maxHeartbeats 1000000 in
theorem tells_big (a0 : Int) (a1 : ByteArray) (w : World) (hm : ¬ a1.size ≤ 300) (h47 : a1.size ≤ 9223372036854775807) :
    Calls Try.prog 3 #[.int .u8 a0, .string a1] w fun e w' => e = .returned (.bool true) ∧ Below w.heap.size w w' := by
  go_enter Try.func3, Try.ntmps3
  go_wp2_with fail
  refine (awake_any _).mono ?_
  rintro e x0 ⟨rfl, b0⟩
  have B0 := Lib.hid b0
  clear b0
  go_wp2_with fail
  go_ret
  exact ⟨rfl, B0.out⟩

set_option maxRecDepth 100000 in
set_option maxHeartbeats 1000000 in
theorem tells_walk (a0 : Int) (a1 : ByteArray) (w0 : (Lit.int .u8 a0).wf = true) (w1 : a1.size ≤ maxLen) (w : World) :
    Calls Try.prog 3 #[.int .u8 a0, .string a1] w fun e w' => e = .returned (.bool true) ∧ Below w.heap.size w w' := by
  have hb0 := bounds_u8 w0
  unfold maxLen at w1
  obtain ⟨c, rfl⟩ := Int.eq_ofNat_of_zero_le hb0.1
  have hc : c < 256 := by omega
  clear hb0 w0
  by_cases hm : a1.size ≤ 300
  · have hP : Gives 16 #[.string a1] (.string (txt (packF (byt a1)))) := fun w => Pack_any a1 w (by omega)
    have hR : Gives 11 #[.string a1] (.string (txt (packF (byt a1)))) := fun w => rPack_any a1 w (by omega)
    have hS : Gives 17 #[.string a1] (.int .i64 ((txt (packF (byt a1))).size : Nat)) := Gives.of_eq fun w => by
      have h := Size_any a1 w (by omega)
      rw [← packF_length, ← txt_size] at h
      exact h
    have hB : Gives 12 #[.int .u8 (c : Int)] (.int .i64 (hlen c : Nat)) := Gives.of_eq fun w => Bits_any c w hc
    have hL : Gives 13 #[.int .i64 (c : Int)] (.int .i64 (hlen c : Nat)) := Gives.of_eq fun w => rLength_any c w (by omega)
    have hC : Gives 14 #[.int .u8 (c : Int)] (.int .u16 (hcode c : Nat)) := fun w => Code_any c w hc
    have hD : Gives 15 #[.int .i64 (c : Int)] (.int .u16 (hcode c : Nat)) := Gives.of_eq fun w => rCode_any c w (by omega)
    generalize txt (packF (byt a1)) = P at *
    generalize hlen c = n at *
    generalize hcode c = d at *
    have HP := Lib.hid hP
    have HR := Lib.hid hR
    have HS := Lib.hid hS
    have HB := Lib.hid hB
    have HL := Lib.hid hL
    have HC := Lib.hid hC
    have HD := Lib.hid hD
    clear hP hR hS hB hL hC hD w1
    go_enter Try.func3, Try.ntmps3
    go_wp2_with fail
    refine (awake_any _).mono ?_
    rintro e x0 ⟨rfl, b0⟩
    have B0 := Lib.hid b0
    clear b0
    go_wp2_with fail
    refine (HR.out _).mono ?_
    rintro e x1 ⟨rfl, b1⟩
    have B1 := Lib.hid (B0.out.trans (b1.mono B0.out.size))
    clear b1 B0
    go_wp2_with fail
    refine (HB.out _).mono ?_
    rintro e x2 ⟨rfl, b2⟩
    have B2 := Lib.hid (B1.out.trans (b2.mono B1.out.size))
    clear b2 B1
    go_wp2_with fail
    refine (HL.out _).mono ?_
    rintro e x3 ⟨rfl, b3⟩
    have B3 := Lib.hid (B2.out.trans (b3.mono B2.out.size))
    clear b3 B2
    go_wp2_with fail
    refine (HC.out _).mono ?_
    rintro e x4 ⟨rfl, b4⟩
    have B4 := Lib.hid (B3.out.trans (b4.mono B3.out.size))
    clear b4 B3
    go_wp2_with fail
    refine (HD.out _).mono ?_
    rintro e x5 ⟨rfl, b5⟩
    have B5 := Lib.hid (B4.out.trans (b5.mono B4.out.size))
    clear b5 B4
    go_wp2_with fail
    refine (HP.out _).mono ?_
    rintro e x6 ⟨rfl, b6⟩
    have B6 := Lib.hid (B5.out.trans (b6.mono B5.out.size))
    clear b6 B5
    go_wp2_with fail
    refine (HS.out _).mono ?_
    rintro e x7 ⟨rfl, b7⟩
    have B7 := Lib.hid (B6.out.trans (b7.mono B6.out.size))
    clear b7 B6
    go_wp2_with fail
    go_ret
    exact ⟨rfl, B7.out⟩
  · exact tells_big c a1 w hm (by omega)

end Go.Proofs.Ytacjhnalhfhdkaa
