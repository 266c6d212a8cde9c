/- The law's own first look at the program ('awake') answers true. -/
import Derived.Test.YtacjhnalhfhdkaaHf
namespace Go.Proofs.Ytacjhnalhfhdkaa
open Go.ChangeShapes Go.WideShapes Go.RowKit
set_option linter.unusedVariables false

/-- A call that answers this, and leaves old memory as it was. -/
def Gives (k : Nat) (args : Array Value) (v : Value) : Prop := ∀ w : World, Calls Try.prog k args w fun e w' => e = .returned v ∧ Below w.heap.size w w'

theorem Gives.of_eq {k : Nat} {args : Array Value} {v : Value} (h : ∀ w : World, Calls Try.prog k args w fun e w' => e = .returned v ∧ w = w') : Gives k args v := fun w =>
  (h w).mono fun e w' ⟨he, hw⟩ => ⟨he, hw ▸ Below.refl _ _⟩

theorem aw1 : Gives 16 #[.string ⟨#[97, 97, 32]⟩] (.string ⟨#[8, 65]⟩) := fun w => by
  have h := Pack_any ⟨#[97, 97, 32]⟩ w (by decide)
  rw [show packF (byt ⟨#[97, 97, 32]⟩) = [8, 65] by decide +kernel] at h
  exact h
theorem aw2 : Gives 18 #[.string ⟨#[8, 65]⟩] (.tuple #[.string ⟨#[97, 97, 32]⟩, .int .i64 0]) := fun w => by
  have h := Unpack_any ⟨#[8, 65]⟩ w (by decide)
  rw [show unpackF (byt ⟨#[8, 65]⟩) = ([97, 97, 32], 0) by decide +kernel] at h
  exact h
theorem aw3 : Gives 18 #[.string ⟨#[0, 0]⟩] (.tuple #[.string ⟨#[]⟩, .int .i64 2]) := fun w => by
  have h := Unpack_any ⟨#[0, 0]⟩ w (by decide)
  rw [show unpackF (byt ⟨#[0, 0]⟩) = ([], 2) by decide +kernel] at h
  exact h
theorem aw4 : Gives 12 #[.int .u8 32] (.int .i64 5) := Gives.of_eq fun w => Bits_any 32 w (by decide)
theorem aw5 : Gives 14 #[.int .u8 32] (.int .u16 0) := fun w => Code_any 32 w (by decide)
theorem aw6 : Gives 14 #[.int .u8 97] (.int .u16 1) := fun w => Code_any 97 w (by decide)
theorem aw7 : Gives 12 #[.int .u8 122] (.int .i64 6) := Gives.of_eq fun w => Bits_any 122 w (by decide)
theorem aw8 : Gives 12 #[.int .u8 65] (.int .i64 8) := Gives.of_eq fun w => Bits_any 65 w (by decide)
theorem aw9 : Gives 12 #[.int .u8 0] (.int .i64 12) := Gives.of_eq fun w => Bits_any 0 w (by decide)
theorem aw10 : Gives 17 #[.string ⟨#[97, 97, 32]⟩] (.int .i64 2) := Gives.of_eq fun w => by
  have h := Size_any ⟨#[97, 97, 32]⟩ w (by decide)
  rw [show ((encB (byt ⟨#[97, 97, 32]⟩)).length + 7) / 8 = 2 by decide +kernel] at h
  exact h

set_option maxRecDepth 100000 in
set_option maxHeartbeats 2000000 in
theorem awake_any : Gives 10 #[] (.bool true) := fun w => by
  go_enter Try.func10, Try.ntmps10
  go_wp2_with fail
  refine (aw1 _).mono ?_
  rintro e w1 ⟨rfl, hb1⟩
  have H1 := Lib.hid hb1
  clear hb1
  go_wp2_with fail
  refine (aw2 _).mono ?_
  rintro e w2 ⟨rfl, hb2⟩
  have H2 := Lib.hid (H1.out.trans (hb2.mono H1.out.size))
  clear hb2 H1
  go_wp2_with fail
  refine (aw3 _).mono ?_
  rintro e w3 ⟨rfl, hb3⟩
  have H3 := Lib.hid (H2.out.trans (hb3.mono H2.out.size))
  clear hb3 H2
  go_wp2_with fail
  refine (aw4 _).mono ?_
  rintro e w4 ⟨rfl, hb4⟩
  have H4 := Lib.hid (H3.out.trans (hb4.mono H3.out.size))
  clear hb4 H3
  go_wp2_with fail
  refine (aw5 _).mono ?_
  rintro e w5 ⟨rfl, hb5⟩
  have H5 := Lib.hid (H4.out.trans (hb5.mono H4.out.size))
  clear hb5 H4
  go_wp2_with fail
  refine (aw6 _).mono ?_
  rintro e w6 ⟨rfl, hb6⟩
  have H6 := Lib.hid (H5.out.trans (hb6.mono H5.out.size))
  clear hb6 H5
  go_wp2_with fail
  refine (aw7 _).mono ?_
  rintro e w7 ⟨rfl, hb7⟩
  have H7 := Lib.hid (H6.out.trans (hb7.mono H6.out.size))
  clear hb7 H6
  go_wp2_with fail
  refine (aw8 _).mono ?_
  rintro e w8 ⟨rfl, hb8⟩
  have H8 := Lib.hid (H7.out.trans (hb8.mono H7.out.size))
  clear hb8 H7
  go_wp2_with fail
  refine (aw9 _).mono ?_
  rintro e w9 ⟨rfl, hb9⟩
  have H9 := Lib.hid (H8.out.trans (hb9.mono H8.out.size))
  clear hb9 H8
  go_wp2_with fail
  refine (aw10 _).mono ?_
  rintro e w10 ⟨rfl, hb10⟩
  have H10 := Lib.hid (H9.out.trans (hb10.mono H9.out.size))
  clear hb10 H9
  go_wp2_with fail
  go_ret
  exact ⟨rfl, H10.out⟩

end Go.Proofs.Ytacjhnalhfhdkaa
