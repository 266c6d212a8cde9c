/- The law's own first look at the program ('awake') answers true. -/
import Derived.Test.YtlpkapkabehdnaaW6
namespace Go.Proofs.Ytlpkapkabehdnaa
open Go.ChangeShapes Go.WideShapes Go.RowKit
set_option linter.unusedVariables false

/-- A call that answers this, and leaves old memory as it was. -/
def Gives (k : Nat) (args : Array Value) (v : Value) : Prop := ∀ w : World, Calls Try.prog k args w fun e w' => e = .returned v ∧ Below w.heap.size w w'

theorem aw1 : Gives 11 #[.int .u64 15293] (.tuple #[.string ⟨#[123, 189]⟩, .int .i64 0]) := fun w => by
  have h := Put_any 15293 w
  rw [show putF 15293 = ([123, 189], 0) by decide +kernel] at h
  exact h
theorem aw2 : Gives 11 #[.int .u64 4611686018427387904] (.tuple #[.string ⟨#[]⟩, .int .i64 3]) := fun w => by
  have h := Put_any 4611686018427387904 w
  rw [show putF 4611686018427387904 = ([], 3) by decide +kernel] at h
  exact h
theorem aw3 : Gives 13 #[.int .u64 37, .int .i64 2] (.tuple #[.string ⟨#[64, 37]⟩, .int .i64 0]) := fun w => by
  have h := Wide_any 37 2 w
  rw [show wideF 37 2 = ([64, 37], 0) by decide +kernel] at h
  exact h
theorem aw4 : Gives 13 #[.int .u64 64, .int .i64 1] (.tuple #[.string ⟨#[]⟩, .int .i64 3]) := fun w => by
  have h := Wide_any 64 1 w
  rw [show wideF 64 1 = ([], 3) by decide +kernel] at h
  exact h
theorem aw5 : Gives 13 #[.int .u64 1, .int .i64 3] (.tuple #[.string ⟨#[]⟩, .int .i64 1]) := fun w => by
  have h := Wide_any 1 3 w
  rw [show wideF 1 3 = ([], 1) by decide +kernel] at h
  exact h
theorem aw6 : Gives 15 #[.string ⟨#[123, 189, 120]⟩] (.tuple #[.int .u64 15293, .string ⟨#[120]⟩, .int .i64 0]) := fun w => by
  have h := Take_any ⟨#[123, 189, 120]⟩ w
  rw [show takeL (byt ⟨#[123, 189, 120]⟩) = (15293, [120], 0) by decide +kernel] at h
  exact h
theorem aw7 : Gives 15 #[.string ⟨#[123]⟩] (.tuple #[.int .u64 0, .string ⟨#[]⟩, .int .i64 2]) := fun w => by
  have h := Take_any ⟨#[123]⟩ w
  rw [show takeL (byt ⟨#[123]⟩) = (0, [], 2) by decide +kernel] at h
  exact h
theorem aw8 : Gives 18 #[.int .u64 11295746, .int .i64 11266227] (.tuple #[.string ⟨#[92, 2]⟩, .int .i64 0]) := fun w => by
  have h := Cut_any 11295746 11266227 w
  rw [show cutF 11295746 11266227 = ([92, 2], 0) by decide +kernel] at h
  exact h
theorem aw9 : Gives 18 #[.int .u64 5, .int .i64 5] (.tuple #[.string ⟨#[]⟩, .int .i64 3]) := fun w => by
  have h := Cut_any 5 5 w
  rw [show cutF 5 5 = ([], 3) by decide +kernel] at h
  exact h
theorem aw10 : Gives 20 #[.string ⟨#[155, 50]⟩, .int .i64 2821665002] (.tuple #[.int .u64 2821692210, .int .i64 0]) := fun w => by
  have h := Tell_any ⟨#[155, 50]⟩ 2821665002 w (by omega)
  rw [show tellF (byt ⟨#[155, 50]⟩) 2821665002 = (2821692210, 0) by decide +kernel] at h
  exact h
theorem aw11 : Gives 20 #[.string ⟨#[]⟩, .int .i64 0] (.tuple #[.int .u64 0, .int .i64 5]) := fun w => by
  have h := Tell_any ⟨#[]⟩ 0 w (by omega)
  rw [show tellF (byt ⟨#[]⟩) 0 = (0, 5) by decide +kernel] at h
  exact h
theorem aw12 : Gives 17 #[.int .u64 64] (.int .i64 2) := fun w => by
  have h := Size_any 64 w
  rw [show sizeF 64 = 2 by decide +kernel] at h
  exact h.mono fun e w' ⟨he, hw⟩ => ⟨he, hw ▸ Below.refl _ _⟩
theorem aw13 : Gives 17 #[.int .u64 4611686018427387904] (.int .i64 0) := fun w => by
  have h := Size_any 4611686018427387904 w
  rw [show sizeF 4611686018427387904 = 0 by decide +kernel] at h
  exact h.mono fun e w' ⟨he, hw⟩ => ⟨he, hw ▸ Below.refl _ _⟩

set_option maxRecDepth 100000 in
set_option maxHeartbeats 2000000 in
theorem awake_any : Gives 10 #[] (.bool true) := fun w => by
  go_enter Try.func10, Try.ntmps10
  go_wp2_with fail
  refine (aw1 _).mono ?_
  rintro e w1 ⟨rfl, hb1⟩
  have H1 := Lib.hid hb1
  clear hb1
  go_wp2_with fail
  refine (aw2 _).mono ?_
  rintro e w2 ⟨rfl, hb2⟩
  have H2 := Lib.hid (H1.out.trans (hb2.mono H1.out.size))
  clear hb2 H1
  go_wp2_with fail
  refine (aw3 _).mono ?_
  rintro e w3 ⟨rfl, hb3⟩
  have H3 := Lib.hid (H2.out.trans (hb3.mono H2.out.size))
  clear hb3 H2
  go_wp2_with fail
  refine (aw4 _).mono ?_
  rintro e w4 ⟨rfl, hb4⟩
  have H4 := Lib.hid (H3.out.trans (hb4.mono H3.out.size))
  clear hb4 H3
  go_wp2_with fail
  refine (aw5 _).mono ?_
  rintro e w5 ⟨rfl, hb5⟩
  have H5 := Lib.hid (H4.out.trans (hb5.mono H4.out.size))
  clear hb5 H4
  go_wp2_with fail
  refine (aw6 _).mono ?_
  rintro e w6 ⟨rfl, hb6⟩
  have H6 := Lib.hid (H5.out.trans (hb6.mono H5.out.size))
  clear hb6 H5
  go_wp2_with fail
  refine (aw7 _).mono ?_
  rintro e w7 ⟨rfl, hb7⟩
  have H7 := Lib.hid (H6.out.trans (hb7.mono H6.out.size))
  clear hb7 H6
  go_wp2_with fail
  refine (aw8 _).mono ?_
  rintro e w8 ⟨rfl, hb8⟩
  have H8 := Lib.hid (H7.out.trans (hb8.mono H7.out.size))
  clear hb8 H7
  go_wp2_with fail
  refine (aw9 _).mono ?_
  rintro e w9 ⟨rfl, hb9⟩
  have H9 := Lib.hid (H8.out.trans (hb9.mono H8.out.size))
  clear hb9 H8
  go_wp2_with fail
  refine (aw10 _).mono ?_
  rintro e w10 ⟨rfl, hb10⟩
  have H10 := Lib.hid (H9.out.trans (hb10.mono H9.out.size))
  clear hb10 H9
  go_wp2_with fail
  refine (aw11 _).mono ?_
  rintro e w11 ⟨rfl, hb11⟩
  have H11 := Lib.hid (H10.out.trans (hb11.mono H10.out.size))
  clear hb11 H10
  go_wp2_with fail
  refine (aw12 _).mono ?_
  rintro e w12 ⟨rfl, hb12⟩
  have H12 := Lib.hid (H11.out.trans (hb12.mono H11.out.size))
  clear hb12 H11
  go_wp2_with fail
  refine (aw13 _).mono ?_
  rintro e w13 ⟨rfl, hb13⟩
  have H13 := Lib.hid (H12.out.trans (hb13.mono H12.out.size))
  clear hb13 H12
  go_wp2_with fail
  go_ret
  exact ⟨rfl, H13.out⟩

end Go.Proofs.Ytlpkapkabehdnaa
