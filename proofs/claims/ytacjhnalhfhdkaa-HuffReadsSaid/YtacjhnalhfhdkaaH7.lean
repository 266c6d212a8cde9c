/- The law HuffReads, walked. -/
import Derived.Test.YtacjhnalhfhdkaaHw
import Derived.Test.YtacjhnalhfhdkaaHl
import Derived.OpenShut
namespace Go.Proofs.Ytacjhnalhfhdkaa
open Go.ChangeShapes Go.WideShapes Go.RowKit
set_option linter.unusedVariables false

set_option maxRecDepth 100000 in
set_option maxHeartbeats 1000000 in
theorem reads_walk (a0 : ByteArray) (w0 : a0.size ≤ maxLen) (w : World) :
    Calls Try.prog 4 #[.string a0] w fun e w' => e = .returned (.bool true) ∧ Below w.heap.size w w' := by
  unfold maxLen at w0
  by_cases hm : a0.size ≤ 300
  · have hP : Gives 18 #[.string a0] (.tuple #[.string (txt (unpackF (byt a0)).1), .int .i64 (unpackF (byt a0)).2]) := fun w => Unpack_any a0 w (by omega)
    have hR : Gives 19 #[.string a0] (.tuple #[.string (txt (unpackF (byt a0)).1), .int .i64 (unpackF (byt a0)).2]) := fun w => by
      rw [unpack_eq]
      exact rUnpack_any a0 w (by omega)
    obtain ⟨T, hT⟩ : ∃ T, txt (unpackF (byt a0)).1 = T := ⟨_, rfl⟩
    obtain ⟨E, hE⟩ : ∃ E, (unpackF (byt a0)).2 = E := ⟨_, rfl⟩
    rw [hT, hE] at hP hR
    have HP := Lib.hid hP
    have HR := Lib.hid hR
    clear hP hR w0 hT hE
    go_enter Try.func4, Try.ntmps4
    go_wp2_with fail
    refine (awake_any _).mono ?_
    rintro e x0 ⟨rfl, b0⟩
    have B0 := Lib.hid b0
    clear b0
    go_wp2_with fail
    refine (HP.out _).mono ?_
    rintro e x1 ⟨rfl, b1⟩
    have B1 := Lib.hid (B0.out.trans (b1.mono B0.out.size))
    clear b1 B0
    go_wp2_with fail
    refine (HR.out _).mono ?_
    rintro e x2 ⟨rfl, b2⟩
    have B2 := Lib.hid (B1.out.trans (b2.mono B1.out.size))
    clear b2 B1
    go_wp2_with fail
    go_ret
    exact ⟨rfl, B2.out⟩
  · go_enter Try.func4, Try.ntmps4
    go_wp2_with fail
    refine (awake_any _).mono ?_
    rintro e x0 ⟨rfl, b0⟩
    have B0 := Lib.hid b0
    clear b0
    go_wp2_with fail
    go_ret
    exact ⟨rfl, B0.out⟩

end Go.Proofs.Ytacjhnalhfhdkaa
